/- Layer 13: SplitWholes: the document's 'Follows' and 'Whole', walked. -/
import Derived.Test.YtlgggljlegpaoaaA13
namespace Go.Proofs.Ytlgggljlegpaoaa
open Go Go.E Go.Proofs

set_option maxHeartbeats 1000000 in
set_option maxRecDepth 100000 in
theorem rfollows_spec (a b : Chk) (w : World) (ha : a.In w) (hb : b.In w) :
    Calls Try.prog 17 #[a.val, b.val] w fun e w' => e = .returned (.bool (follows a b)) ∧ Sat w 1 w' := by
  obtain ⟨a1, a2, a3, a4⟩ := ha.ones
  obtain ⟨b1, b2, b3, b4⟩ := hb.ones
  refine Calls.enter (cfg := cfg17 w) (β := []) (H := []) (F := 1) (l := [a.lv, b.lv]) Try.func17 rfl rfl (Nat.le_of_ble_eq_true rfl) rfl ((Sat.refl w).eq (one_mul 1).symm) ?_
  refine Go.run mixed 300 [] rfl ?_
  refine Ok.eq (r' := Res.need [fun x ↦ Value.one (Chk.r7 a) = true, fun x ↦ Value.one (Chk.r8 a) = true, fun x ↦ Value.one (Chk.r9 a) = true, fun x ↦ Value.one (Chk.r10 a) = true, fun x ↦ Value.one (Value.slice (Chk.db a) (Chk.dn a) (Chk.dc a)) = true] (Res.new (Res.need [fun x ↦ Value.one (Chk.r7 b) = true, fun x ↦ Value.one (Chk.r8 b) = true, fun x ↦ Value.one (Chk.r9 b) = true, fun x ↦ Value.one (Chk.r10 b) = true, fun x ↦ Value.one (Value.slice (Chk.db b) (Chk.dn b) (Chk.dc b)) = true] (Res.new (Res.ite (Chk.kind a != (0 : Int) || Chk.kind b != (0 : Int) || Chk.a b != IntKind.wrap IntKind.u32 (Chk.a a + (1 : Int))) (Res.leave Leave.ret { stk := [It.code [1, 0, 1, 0, 1], It.code [1, 1]], fr := [(4, LV.cst (Value.bool false)), (3, LV.ptr 1 0), (2, LV.ptr 0 0), (0, LV.agg [LV.int IntKind.u8 (Chk.kind a), LV.int IntKind.u8 (Chk.flags a), LV.int IntKind.u32 (Chk.a a), LV.int IntKind.u32 (Chk.b a), LV.int IntKind.u16 (Chk.out a), LV.int IntKind.u16 (Chk.inn a), LV.int IntKind.u32 (Chk.ppid a), LV.raw (Chk.r7 a), LV.raw (Chk.r8 a), LV.raw (Chk.r9 a), LV.raw (Chk.r10 a), LV.raw (Value.slice (Chk.db a) (Chk.dn a) (Chk.dc a))]), (1, LV.agg [LV.int IntKind.u8 (Chk.kind b), LV.int IntKind.u8 (Chk.flags b), LV.int IntKind.u32 (Chk.a b), LV.int IntKind.u32 (Chk.b b), LV.int IntKind.u16 (Chk.out b), LV.int IntKind.u16 (Chk.inn b), LV.int IntKind.u32 (Chk.ppid b), LV.raw (Chk.r7 b), LV.raw (Chk.r8 b), LV.raw (Chk.r9 b), LV.raw (Chk.r10 b), LV.raw (Value.slice (Chk.db b) (Chk.dn b) (Chk.dc b))])], H := [(1, LO.lay [LV.int IntKind.u8 (Chk.kind b), LV.int IntKind.u8 (Chk.flags b), LV.int IntKind.u32 (Chk.a b), LV.int IntKind.u32 (Chk.b b), LV.int IntKind.u16 (Chk.out b), LV.int IntKind.u16 (Chk.inn b), LV.int IntKind.u32 (Chk.ppid b), LV.raw (Chk.r7 b), LV.raw (Chk.r8 b), LV.raw (Chk.r9 b), LV.raw (Chk.r10 b), LV.raw (Value.slice (Chk.db b) (Chk.dn b) (Chk.dc b))] 39), (0, LO.lay [LV.int IntKind.u8 (Chk.kind a), LV.int IntKind.u8 (Chk.flags a), LV.int IntKind.u32 (Chk.a a), LV.int IntKind.u32 (Chk.b a), LV.int IntKind.u16 (Chk.out a), LV.int IntKind.u16 (Chk.inn a), LV.int IntKind.u32 (Chk.ppid a), LV.raw (Chk.r7 a), LV.raw (Chk.r8 a), LV.raw (Chk.r9 a), LV.raw (Chk.r10 a), LV.raw (Value.slice (Chk.db a) (Chk.dn a) (Chk.dc a))] 39)], nx := 2, orc := [] }) (Res.leave Leave.ret { stk := [It.code [1, 1, 1]], fr := [(4, LV.bool (Chk.out a == Chk.out b && Chk.inn a == Chk.inn b && Chk.ppid a == Chk.ppid b && Int.tmod (IntKind.wrap IntKind.u8 (Int.tdiv (Chk.flags a) (4 : Int))) (2 : Int) == Int.tmod (IntKind.wrap IntKind.u8 (Int.tdiv (Chk.flags b) (4 : Int))) (2 : Int) && Int.tmod (Chk.flags a) (2 : Int) == (0 : Int) && Int.tmod (IntKind.wrap IntKind.u8 (Int.tdiv (Chk.flags b) (2 : Int))) (2 : Int) == (0 : Int))), (3, LV.ptr 1 0), (2, LV.ptr 0 0), (0, LV.agg [LV.int IntKind.u8 (Chk.kind a), LV.int IntKind.u8 (Chk.flags a), LV.int IntKind.u32 (Chk.a a), LV.int IntKind.u32 (Chk.b a), LV.int IntKind.u16 (Chk.out a), LV.int IntKind.u16 (Chk.inn a), LV.int IntKind.u32 (Chk.ppid a), LV.raw (Chk.r7 a), LV.raw (Chk.r8 a), LV.raw (Chk.r9 a), LV.raw (Chk.r10 a), LV.raw (Value.slice (Chk.db a) (Chk.dn a) (Chk.dc a))]), (1, LV.agg [LV.int IntKind.u8 (Chk.kind b), LV.int IntKind.u8 (Chk.flags b), LV.int IntKind.u32 (Chk.a b), LV.int IntKind.u32 (Chk.b b), LV.int IntKind.u16 (Chk.out b), LV.int IntKind.u16 (Chk.inn b), LV.int IntKind.u32 (Chk.ppid b), LV.raw (Chk.r7 b), LV.raw (Chk.r8 b), LV.raw (Chk.r9 b), LV.raw (Chk.r10 b), LV.raw (Value.slice (Chk.db b) (Chk.dn b) (Chk.dc b))])], H := [(1, LO.lay [LV.int IntKind.u8 (Chk.kind b), LV.int IntKind.u8 (Chk.flags b), LV.int IntKind.u32 (Chk.a b), LV.int IntKind.u32 (Chk.b b), LV.int IntKind.u16 (Chk.out b), LV.int IntKind.u16 (Chk.inn b), LV.int IntKind.u32 (Chk.ppid b), LV.raw (Chk.r7 b), LV.raw (Chk.r8 b), LV.raw (Chk.r9 b), LV.raw (Chk.r10 b), LV.raw (Value.slice (Chk.db b) (Chk.dn b) (Chk.dc b))] 39), (0, LO.lay [LV.int IntKind.u8 (Chk.kind a), LV.int IntKind.u8 (Chk.flags a), LV.int IntKind.u32 (Chk.a a), LV.int IntKind.u32 (Chk.b a), LV.int IntKind.u16 (Chk.out a), LV.int IntKind.u16 (Chk.inn a), LV.int IntKind.u32 (Chk.ppid a), LV.raw (Chk.r7 a), LV.raw (Chk.r8 a), LV.raw (Chk.r9 a), LV.raw (Chk.r10 a), LV.raw (Value.slice (Chk.db a) (Chk.dn a) (Chk.dc a))] 39)], nx := 2, orc := [] })))))) (by kernel_rfl) ?_
  refine ⟨⟨a1, a2, a3, a4, rfl, trivial⟩, fun b5 => ⟨⟨b1, b2, b3, b4, rfl, trivial⟩, fun b6 => ⟨fun h => leave_ok (fun _ => nofun) rfl fun w hs => ⟨?_, hs.right⟩, fun h => leave_ok (fun _ => nofun) rfl fun w hs => ⟨?_, hs.right⟩⟩⟩⟩
  · have hf : follows a b = false := by
      unfold follows
      cases hh : a.kind == 0 && b.kind == 0
      · rfl
      · have : (b.a == IntKind.u32.wrap (a.a + 1)) = false := by
          simp at hh
          rw [hh.1, hh.2] at h
          simpa using h
        rw [this]; simp
    rw [hf]; rfl
  · simp at h
    have hk : (a.kind == 0 && b.kind == 0) = true := by simp [h]
    have ha' : (b.a == IntKind.u32.wrap (a.a + 1)) = true := by simp [h]
    unfold follows
    rw [hk, ha', flag_x ha.flags hb.flags, ← flag_1 ha.flags, ← flag_2 hb.flags]
    simp only [Bool.true_and, Bool.and_true]
    rfl

set_option maxHeartbeats 1000000 in
set_option maxRecDepth 100000 in
theorem rwhole_spec (base : Option Addr) (n c : Nat) (cs : List Chk) (w : World) (hn : cs.length = n) (hn2 : n ≤ 20000) (hrd : Rd w base (cs.flatMap Chk.cells)) (hin : ∀ c ∈ cs, c.In w) (hok : ∀ c ∈ cs, c.Ok w) :
    Calls Try.prog 14 #[.slice base n c] w (WholeR cs w) := by
  obtain ⟨c0, hc0⟩ : ∃ c0, c0 = cs.getD 0 noChk := ⟨_, rfl⟩
  obtain ⟨cl, hcl⟩ : ∃ cl, cl = cs.getD (n - 1) noChk := ⟨_, rfl⟩
  refine Calls.enter (cfg := cfg14 w) (β := []) (H := []) (F := 1) (l := [.raw (.slice base n c)]) Try.func14 rfl rfl (Nat.le_of_ble_eq_true rfl) rfl ((Sat.refl w).eq (one_mul 1).symm) ?_
  refine Go.run mixed 300 [.int .u8 c0.kind, .int .u8 c0.flags, .int .u8 cl.flags, .int .u16 c0.out, .int .u8 c0.flags, .int .u32 c0.ppid] rfl ?_
  refine Ok.eq (r' := Res.new (Res.need [fun β ↦ (!(↑n : Int) == (0 : Int)) = true → allP β [fun x ↦ (0 : Int) ≤ (0 : Int) ∧ (0 : Int) < (↑n : Int) ∧ Option.isSome base = true]] (Res.need [fun β ↦ (!(↑n : Int) == (0 : Int)) = true → allP β [fun β ↦ (fun x j ↦ aCell (Cfg.w0 (cfg14 w)) (Addr.add (adr base 0) 0) j) β 0 = some (den β (LV.int IntKind.u8 (Chk.kind c0)))]] (Res.need [fun β ↦ (!((↑n : Int) == (0 : Int) || Chk.kind c0 != (0 : Int))) = true → allP β [fun x ↦ (0 : Int) ≤ (0 : Int) ∧ (0 : Int) < (↑n : Int) ∧ Option.isSome base = true]] (Res.need [fun β ↦ (!((↑n : Int) == (0 : Int) || Chk.kind c0 != (0 : Int))) = true → allP β [fun β ↦ (fun x j ↦ aCell (Cfg.w0 (cfg14 w)) (Addr.add (adr base 0) 1) j) β 0 = some (den β (LV.int IntKind.u8 (Chk.flags c0)))]] (Res.need [fun β ↦ (!((↑n : Int) == (0 : Int) || Chk.kind c0 != (0 : Int) || Int.tmod (IntKind.wrap IntKind.u8 (Int.tdiv (Chk.flags c0) (2 : Int))) (2 : Int) == (0 : Int))) = true → allP β [fun x ↦ (0 : Int) ≤ IntKind.wrap IntKind.i64 ((↑n : Int) - (1 : Int)) ∧ IntKind.wrap IntKind.i64 ((↑n : Int) - (1 : Int)) < (↑n : Int) ∧ Option.isSome base = true]] (Res.need [fun β ↦ (!((↑n : Int) == (0 : Int) || Chk.kind c0 != (0 : Int) || Int.tmod (IntKind.wrap IntKind.u8 (Int.tdiv (Chk.flags c0) (2 : Int))) (2 : Int) == (0 : Int))) = true → allP β [fun β ↦ (fun x j ↦ aCell (Cfg.w0 (cfg14 w)) (Addr.add (adr base (Int.toNat (IntKind.wrap IntKind.i64 ((↑n : Int) - (1 : Int))) * 12)) 1) j) β 0 = some (den β (LV.int IntKind.u8 (Chk.flags cl)))]] (Res.ite ((↑n : Int) == (0 : Int) || Chk.kind c0 != (0 : Int) || Int.tmod (IntKind.wrap IntKind.u8 (Int.tdiv (Chk.flags c0) (2 : Int))) (2 : Int) == (0 : Int) || Int.tmod (Chk.flags cl) (2 : Int) == (0 : Int)) (Res.leave Leave.ret { stk := [It.code [1, 0, 1, 0, 1], It.code [1, 1]], fr := [(3, LV.cst (Value.bool false)), (2, LV.ptr 0 0), (0, LV.raw (Value.slice base n c))], H := [(0, LO.lay [LV.int IntKind.u16 (0 : Int), LV.cst (Value.bool false), LV.int IntKind.u32 (0 : Int), LV.cst (Value.slice none 0 0)] 26)], nx := 1, orc := [LV.int IntKind.u16 (Chk.out c0), LV.int IntKind.u8 (Chk.flags c0), LV.int IntKind.u32 (Chk.ppid c0)] }) (Res.need [fun x ↦ (0 : Int) ≤ (0 : Int) ∧ (0 : Int) < (↑n : Int) ∧ Option.isSome base = true] (Res.need [fun β ↦ (fun x j ↦ aCell (Cfg.w0 (cfg14 w)) (Addr.add (adr base 0) 4) j) β 0 = some (den β (LV.int IntKind.u16 (Chk.out c0)))] (Res.need [fun x ↦ (0 : Int) ≤ (0 : Int) ∧ (0 : Int) < (↑n : Int) ∧ Option.isSome base = true] (Res.need [fun β ↦ (fun x j ↦ aCell (Cfg.w0 (cfg14 w)) (Addr.add (adr base 0) 1) j) β 0 = some (den β (LV.int IntKind.u8 (Chk.flags c0)))] (Res.need [fun x ↦ (0 : Int) ≤ (0 : Int) ∧ (0 : Int) < (↑n : Int) ∧ Option.isSome base = true] (Res.need [fun β ↦ (fun x j ↦ aCell (Cfg.w0 (cfg14 w)) (Addr.add (adr base 0) 6) j) β 0 = some (den β (LV.int IntKind.u32 (Chk.ppid c0)))] (Res.new (Res.stop { stk := [It.code [1, 1, 1, 0, 1, 0], It.blk 0, It.code [1, 1, 1, 1]], fr := [(5, LV.int IntKind.i64 (0 : Int)), (4, LV.ptr 1 0), (3, LV.cst (Value.bool false)), (2, LV.ptr 0 0), (0, LV.raw (Value.slice base n c))], H := [(1, LO.lay [LV.int IntKind.u16 (Chk.out c0), LV.bool (Int.tmod (IntKind.wrap IntKind.u8 (Int.tdiv (Chk.flags c0) (4 : Int))) (2 : Int) == (1 : Int)), LV.int IntKind.u32 (Chk.ppid c0), LV.cst (Value.slice none 0 0)] 26), (0, LO.lay [LV.int IntKind.u16 (0 : Int), LV.cst (Value.bool false), LV.int IntKind.u32 (0 : Int), LV.cst (Value.slice none 0 0)] 26)], nx := 2, orc := [] })))))))))))))))) (by kernel_rfl) ?_
  have hsome : 0 < n → base.isSome = true := fun h => by
    have hk : cs[0]? = some (cs.getD 0 noChk) := getD_get (by omega)
    exact hrd.isSome (k := 0 * 12 + 0) (rd_cell hk (j := 0) rfl)
  have cell : ∀ k, k < n → ∀ j u, (cs.getD k noChk).cells[j]? = some u → aCell w ((adr base (k * 12)).add j) 0 = some u := fun k hk j u hj =>
    hrd.field (rd_cell (getD_get (by omega)) hj)
  have cell0 : 0 < n → ∀ j u, (cs.getD 0 noChk).cells[j]? = some u → aCell w ((adr base 0).add j) 0 = some u := fun h j u hj => by
    have := cell 0 h j u hj
    rwa [Nat.zero_mul] at this
  have pos : ∀ {x : Bool}, (!((n : Int) == 0 || x)) = true → 0 < n := fun h => by
    simp at h; omega
  have pos1 : (!((n : Int) == 0)) = true → 0 < n := fun h => by simp at h; omega
  have hw1 : 0 < n → IntKind.i64.wrap ((n : Int) - 1) = ((n - 1 : Nat) : Int) := fun h => by rw [IntWalk.i64_in _ (by omega)]; omega
  have fin0 : 0 < n → 0 ≤ c0.flags ∧ c0.flags ≤ 255 := fun h => (hin c0 (hc0 ▸ List.mem_of_getElem? (getD_get (d := noChk) (by omega)))).flags
  have finl : 0 < n → 0 ≤ cl.flags ∧ cl.flags ≤ 255 := fun h => (hin cl (hcl ▸ List.mem_of_getElem? (getD_get (d := noChk) (by omega)))).flags
  have hhead : wholeHead cs = !((n : Int) == 0 || c0.kind != 0 || fl2 c0.flags == 0 || cl.flags.tmod 2 == 0) := by
    unfold wholeHead
    rw [hn, ← hc0, ← hcl, show (n == 0) = ((n : Int) == 0) by cases n <;> simp <;> omega]
    by_cases h : n = 0
    · subst h; rfl
    · rw [flag_2 (fin0 (by omega)), flag_1 (finl (by omega))]
  refine fun b0 => ⟨⟨fun h => ⟨⟨by omega, by have := pos1 h; omega, hsome (pos1 h)⟩, trivial⟩, trivial⟩, ⟨fun h => ⟨cell0 (pos1 h) 0 _ (by rw [← hc0]; rfl), trivial⟩, trivial⟩,
    ⟨fun h => ⟨⟨by omega, by have := pos h; omega, hsome (pos h)⟩, trivial⟩, trivial⟩, ⟨fun h => ⟨cell0 (pos h) 1 _ (by rw [← hc0]; rfl), trivial⟩, trivial⟩,
    ⟨fun h => ⟨?_, trivial⟩, trivial⟩, ⟨fun h => ⟨?_, trivial⟩, trivial⟩, fun hbad => ?_, fun hgood => ?_⟩
  · have hp : 0 < n := pos (by rwa [Bool.or_assoc] at h)
    rw [hw1 hp]
    exact ⟨by omega, by omega, hsome hp⟩
  · have hp : 0 < n := pos (by rwa [Bool.or_assoc] at h)
    rw [hw1 hp, show (((n - 1 : Nat) : Int)).toNat = n - 1 by omega]
    exact cell (n - 1) (by omega) 1 _ (by rw [← hcl]; rfl)
  · refine leave_okC (fun _ => nofun) rfl trivial fun w hs => wholeR_none ?_ hs.right
    have hh : wholeHead cs = false := by rw [hhead]; exact congrArg (!·) hbad
    simp [wholeOk, hh]
  · have hp : 0 < n := by
      have hg := hgood
      rw [Bool.or_assoc, Bool.or_assoc] at hg
      exact pos (x := _) (by rw [hg]; rfl)
    refine ⟨⟨⟨by omega, by omega, hsome hp⟩, trivial⟩, ⟨cell0 hp 4 _ (by rw [← hc0]; rfl), trivial⟩, ⟨⟨by omega, by omega, hsome hp⟩, trivial⟩, ⟨cell0 hp 1 _ (by rw [← hc0]; rfl), trivial⟩, ⟨⟨by omega, by omega, hsome hp⟩, trivial⟩, ⟨cell0 hp 6 _ (by rw [← hc0]; rfl), trivial⟩, fun b1 => fun _ => ?_⟩
    refine Go.loop (ι := WholeI cs) (fun i => (Go.E.own 5 1 i.mb i.md i.mc (((cs.take i.i).flatMap Chk.bytes).map (Value.int .u8)) * 1, [b0, b1],
      [(5, .int .i64 i.i), (4, .ptr 1 0), (2, .ptr 0 0), (0, .raw (.slice base n c))],
      [(1, .lay [.int .u16 c0.out, .bool (fl4 c0.flags == 1), .int .u32 c0.ppid, .raw (.slice i.mb i.md i.mc)] 26), (0, .lay [.int .u16 0, .cst (.bool false), .int .u32 0, .cst (.slice none 0 0)] 26)]))
      (fun i => n - i.i) rfl ⟨0, none, 0, 0, by omega, rfl, rfl⟩ (fun w hs => ⟨FrEq.of_all ⟨rfl, rfl, rfl, rfl, trivial⟩, rfl, ?_⟩) ?_
    · refine (own_nil (e := 5) (sz := 1) hs).eq ?_
      simp [satH, atom, denO, bk, mul_one, denL, den, star_assoc, fl4]
      ac_rfl
    intro I rec
    dsimp only
    obtain ⟨ci, hci⟩ : ∃ ci, ci = cs.getD I.i noChk := ⟨_, rfl⟩
    obtain ⟨cp, hcp⟩ : ∃ cp, cp = cs.getD (I.i - 1) noChk := ⟨_, rfl⟩
    have hcw : I.i < n → ci ∈ cs := fun h => hci ▸ List.mem_of_getElem? (getD_get (d := noChk) (by omega))
    have tail : I.i < n → chain cs (I.i + 1) = true → Go Try.prog none 14 (RetQ Try.prog Try.f14 (WholeR cs w)) (cfg14 w) [] (Go.E.own 5 1 I.mb I.md I.mc (((cs.take I.i).flatMap Chk.bytes).map (Value.int .u8)) * 1) [b0, b1]
        [(81, .raw (.slice ci.db ci.dn ci.dc)), (80, .raw (.pointer (some ((adr base (I.i * 12)).add 11)))), (79, .raw (.pointer (some (adr base (I.i * 12))))), (78, .int .i64 I.i), (77, .raw (.slice base n c)), (76, .raw (.slice I.mb I.md I.mc)), (75, .ptr 1 3), (5, .int .i64 I.i), (4, .ptr 1 0), (2, .ptr 0 0), (0, .raw (.slice base n c))]
        [(1, .lay [.int .u16 c0.out, .bool (fl4 c0.flags == 1), .int .u32 c0.ppid, .raw (.slice I.mb I.md I.mc)] 26), (0, .lay [.int .u16 0, .cst (.bool false), .int .u32 0, .cst (.slice none 0 0)] 26)]
        [.dop [1, 1, 1, 0, 1, 0, 0, 1, 0, 0, 1] 127 2 511 [(1, .lay [.int .u16 c0.out, .bool (fl4 c0.flags == 1), .int .u32 c0.ppid, .raw (.slice I.mb I.md I.mc)] 26), (0, .lay [.int .u16 0, .cst (.bool false), .int .u32 0, .cst (.slice none 0 0)] 26)] 7, .blk 1, .code [1, 1, 1, 0, 1, 0, 0, 1, 1], .lp [1, 1, 1, 0, 1, 0, 0], .blk 0, .code [1, 1, 1, 1]] := by
      intro hlt hch
      have hcok := hok ci (hcw hlt)
      have hfl := flat_le (cs := cs.take I.i) fun c hc => by have := hok c (List.mem_of_mem_take hc); rw [this.len]; exact this.small
      have hmd := I.len
      have htl : (cs.take I.i).length ≤ 20000 := by rw [List.length_take]; omega
      have hsm := hcok.small
      refine Go.appendD (base := I.mb) (n := I.md) (c := I.mc) (e := 5) (sz := 1) ci.dn rfl rfl rfl rfl rfl rfl rfl rfl rfl rfl rfl rfl fun w' hs => ?_
      refine ⟨((cs.take I.i).flatMap Chk.bytes).map (Value.int .u8), ci.bytes.map (Value.int .u8), 1, [(1, .lay [.int .u16 c0.out, .bool (fl4 c0.flags == 1), .int .u32 c0.ppid, .raw (.slice I.mb I.md I.mc)] 26), (0, .lay [.int .u16 0, .cst (.bool false), .int .u32 0, .cst (.slice none 0 0)] 26)], hs.eq (by ac_rfl), ?_, ?_, by omega, .inl rfl, fun base' c' => ?_⟩
      · exact (hcok.rd.sat hs).src (tx := 24) (e' := 5) rfl (by simp [hcok.len]) (by simp [Value.one]) hcok.nil
      · show (I.md + ci.dn) * 1 ≤ _
        omega
      have htk : cs.take (I.i + 1) = cs.take I.i ++ [ci] := by rw [List.take_add_one, getD_get (d := noChk) (by omega : I.i < cs.length), ← hci]; rfl
      have hrec := rec ⟨I.i + 1, base', I.md + ci.dn, c', by omega, hch, by rw [htk, List.flatMap_append, List.length_append, I.len]; simp [hcok.len]⟩ (by show n - (I.i + 1) < n - I.i; omega)
      have hwr : IntKind.i64.wrap ((I.i : Int) + 1) = ((I.i + 1 : Nat) : Int) := by rw [IntWalk.i64_in _ (by omega)]; omega
      dsimp only at hrec
      rw [htk] at hrec
      refine Go.run mixed 300 [] rfl ?_
      refine Ok.eq (r' := Res.need [fun x ↦ Value.one (Value.slice base' (WholeI.md I + Chk.dn ci) c') = true] (Res.stop { stk := [It.lp [1, 1, 1, 0, 1, 0, 0], It.blk 0, It.code [1, 1, 1, 1]], fr := [(5, LV.int IntKind.i64 (IntKind.wrap IntKind.i64 ((↑(WholeI.i I) : Int) + (1 : Int)))), (4, LV.ptr 1 0), (2, LV.ptr 0 0), (0, LV.raw (Value.slice base n c))], H := [(1, LO.lay [LV.int IntKind.u16 (Chk.out c0), LV.bool (fl4 (Chk.flags c0) == (1 : Int)), LV.int IntKind.u32 (Chk.ppid c0), LV.raw (Value.slice base' (WholeI.md I + Chk.dn ci) c')] 26), (0, LO.lay [LV.int IntKind.u16 (0 : Int), LV.cst (Value.bool false), LV.int IntKind.u32 (0 : Int), LV.cst (Value.slice none 0 0)] 26)], nx := 2, orc := [] })) (by kernel_rfl) ?_
      refine ⟨⟨rfl, trivial⟩, fun _ => Go.again hrec (fun _ => rfl) fun w hs => ⟨⟨congrArg (Value.int .i64) hwr.symm, rfl, rfl, rfl, trivial⟩, rfl, hs.eq ?_⟩⟩
      simp [satH, atom, denO, bk, mul_one, denL, den, star_assoc]
    refine Go.run mixed 300 [.agg cp.lvL, .agg ci.lvL, .raw (.slice ci.db ci.dn ci.dc)] rfl ?_
    refine Ok.eq (r' := Res.ite (decide ((↑(WholeI.i I) : Int) < (↑n : Int))) (Res.need [fun β ↦ decide ((↑(WholeI.i I) : Int) > (0 : Int)) = true → allP β [fun x ↦ (0 : Int) ≤ IntKind.wrap IntKind.i64 ((↑(WholeI.i I) : Int) - (1 : Int)) ∧ IntKind.wrap IntKind.i64 ((↑(WholeI.i I) : Int) - (1 : Int)) < (↑n : Int) ∧ Option.isSome base = true]] (Res.need [fun β ↦ decide ((↑(WholeI.i I) : Int) > (0 : Int)) = true → allP β [fun β ↦ E.rowAt β ((fun x j ↦ aCell (Cfg.w0 (cfg14 w)) (adr base (Int.toNat (IntKind.wrap IntKind.i64 ((↑(WholeI.i I) : Int) - (1 : Int))) * 12)) j) β) 0 (Chk.lvL cp)]] (Res.need [fun β ↦ decide ((↑(WholeI.i I) : Int) > (0 : Int)) = true → allP β [fun x ↦ (0 : Int) ≤ (↑(WholeI.i I) : Int) ∧ (↑(WholeI.i I) : Int) < (↑n : Int) ∧ Option.isSome base = true]] (Res.need [fun β ↦ decide ((↑(WholeI.i I) : Int) > (0 : Int)) = true → allP β [fun β ↦ E.rowAt β ((fun x j ↦ aCell (Cfg.w0 (cfg14 w)) (adr base (Int.toNat (↑(WholeI.i I) : Int) * 12)) j) β) 0 (Chk.lvL ci)]] (Res.ite (decide ((↑(WholeI.i I) : Int) > (0 : Int))) (Res.stop { stk := [It.dop [1, 1, 1, 0, 1, 0, 0, 1, 0, 0, 0, 0] 4095 2 32767 [(1, LO.lay [LV.int IntKind.u16 (Chk.out c0), LV.bool (fl4 (Chk.flags c0) == (1 : Int)), LV.int IntKind.u32 (Chk.ppid c0), LV.raw (Value.slice (WholeI.mb I) (WholeI.md I) (WholeI.mc I))] 26), (0, LO.lay [LV.int IntKind.u16 (0 : Int), LV.cst (Value.bool false), LV.int IntKind.u32 (0 : Int), LV.cst (Value.slice none 0 0)] 26)] 12, It.code [1, 1, 1, 0, 1, 0, 0, 1, 0, 0, 0, 1], It.code [1, 1, 1, 0, 1, 0, 0, 1, 0, 0, 1], It.blk 1, It.code [1, 1, 1, 0, 1, 0, 0, 1, 1], It.lp [1, 1, 1, 0, 1, 0, 0], It.blk 0, It.code [1, 1, 1, 1]], fr := [(61, LV.cst (Value.bool true)), (70, LV.agg [LV.int IntKind.u8 (Chk.kind ci), LV.int IntKind.u8 (Chk.flags ci), LV.int IntKind.u32 (Chk.a ci), LV.int IntKind.u32 (Chk.b ci), LV.int IntKind.u16 (Chk.out ci), LV.int IntKind.u16 (Chk.inn ci), LV.int IntKind.u32 (Chk.ppid ci), LV.raw (Chk.r7 ci), LV.raw (Chk.r8 ci), LV.raw (Chk.r9 ci), LV.raw (Chk.r10 ci), LV.raw (Value.slice (Chk.db ci) (Chk.dn ci) (Chk.dc ci))]), (69, LV.raw (Value.pointer (some (adr base (Int.toNat (↑(WholeI.i I) : Int) * 12))))), (68, LV.int IntKind.i64 (↑(WholeI.i I) : Int)), (67, LV.raw (Value.slice base n c)), (66, LV.agg [LV.int IntKind.u8 (Chk.kind cp), LV.int IntKind.u8 (Chk.flags cp), LV.int IntKind.u32 (Chk.a cp), LV.int IntKind.u32 (Chk.b cp), LV.int IntKind.u16 (Chk.out cp), LV.int IntKind.u16 (Chk.inn cp), LV.int IntKind.u32 (Chk.ppid cp), LV.raw (Chk.r7 cp), LV.raw (Chk.r8 cp), LV.raw (Chk.r9 cp), LV.raw (Chk.r10 cp), LV.raw (Value.slice (Chk.db cp) (Chk.dn cp) (Chk.dc cp))]), (65, LV.raw (Value.pointer (some (adr base (Int.toNat (IntKind.wrap IntKind.i64 ((↑(WholeI.i I) : Int) - (1 : Int))) * 12))))), (64, LV.int IntKind.i64 (IntKind.wrap IntKind.i64 ((↑(WholeI.i I) : Int) - (1 : Int)))), (63, LV.int IntKind.i64 (↑(WholeI.i I) : Int)), (62, LV.raw (Value.slice base n c)), (60, LV.bool (decide ((↑(WholeI.i I) : Int) > (0 : Int)))), (59, LV.int IntKind.i64 (↑(WholeI.i I) : Int)), (5, LV.int IntKind.i64 (↑(WholeI.i I) : Int)), (4, LV.ptr 1 0), (2, LV.ptr 0 0), (0, LV.raw (Value.slice base n c))], H := [(1, LO.lay [LV.int IntKind.u16 (Chk.out c0), LV.bool (fl4 (Chk.flags c0) == (1 : Int)), LV.int IntKind.u32 (Chk.ppid c0), LV.raw (Value.slice (WholeI.mb I) (WholeI.md I) (WholeI.mc I))] 26), (0, LO.lay [LV.int IntKind.u16 (0 : Int), LV.cst (Value.bool false), LV.int IntKind.u32 (0 : Int), LV.cst (Value.slice none 0 0)] 26)], nx := 2, orc := [LV.raw (Value.slice (Chk.db ci) (Chk.dn ci) (Chk.dc ci))] }) (Res.need [fun x ↦ (0 : Int) ≤ (↑(WholeI.i I) : Int) ∧ (↑(WholeI.i I) : Int) < (↑n : Int) ∧ Option.isSome base = true] (Res.need [fun β ↦ (fun x j ↦ aCell (Cfg.w0 (cfg14 w)) (Addr.add (adr base (Int.toNat (↑(WholeI.i I) : Int) * 12)) 11) j) β 0 = some (den β (LV.raw (Value.slice (Chk.db ci) (Chk.dn ci) (Chk.dc ci))))] (Res.stop { stk := [It.dop [1, 1, 1, 0, 1, 0, 0, 1, 0, 0, 1] 127 2 511 [(1, LO.lay [LV.int IntKind.u16 (Chk.out c0), LV.bool (fl4 (Chk.flags c0) == (1 : Int)), LV.int IntKind.u32 (Chk.ppid c0), LV.raw (Value.slice (WholeI.mb I) (WholeI.md I) (WholeI.mc I))] 26), (0, LO.lay [LV.int IntKind.u16 (0 : Int), LV.cst (Value.bool false), LV.int IntKind.u32 (0 : Int), LV.cst (Value.slice none 0 0)] 26)] 7, It.blk 1, It.code [1, 1, 1, 0, 1, 0, 0, 1, 1], It.lp [1, 1, 1, 0, 1, 0, 0], It.blk 0, It.code [1, 1, 1, 1]], fr := [(81, LV.raw (Value.slice (Chk.db ci) (Chk.dn ci) (Chk.dc ci))), (80, LV.raw (Value.pointer (some (Addr.add (adr base (Int.toNat (↑(WholeI.i I) : Int) * 12)) 11)))), (79, LV.raw (Value.pointer (some (adr base (Int.toNat (↑(WholeI.i I) : Int) * 12))))), (78, LV.int IntKind.i64 (↑(WholeI.i I) : Int)), (77, LV.raw (Value.slice base n c)), (76, LV.raw (Value.slice (WholeI.mb I) (WholeI.md I) (WholeI.mc I))), (75, LV.ptr 1 3), (5, LV.int IntKind.i64 (↑(WholeI.i I) : Int)), (4, LV.ptr 1 0), (2, LV.ptr 0 0), (0, LV.raw (Value.slice base n c))], H := [(1, LO.lay [LV.int IntKind.u16 (Chk.out c0), LV.bool (fl4 (Chk.flags c0) == (1 : Int)), LV.int IntKind.u32 (Chk.ppid c0), LV.raw (Value.slice (WholeI.mb I) (WholeI.md I) (WholeI.mc I))] 26), (0, LO.lay [LV.int IntKind.u16 (0 : Int), LV.cst (Value.bool false), LV.int IntKind.u32 (0 : Int), LV.cst (Value.slice none 0 0)] 26)], nx := 2, orc := [] })))))))) (Res.need [fun x ↦ Value.one (Value.slice (WholeI.mb I) (WholeI.md I) (WholeI.mc I)) = true] (Res.leave Leave.ret { stk := [It.code [1, 1, 1, 1, 1]], fr := [(3, LV.cst (Value.bool true)), (5, LV.int IntKind.i64 (↑(WholeI.i I) : Int)), (4, LV.ptr 1 0), (2, LV.ptr 0 0), (0, LV.raw (Value.slice base n c))], H := [(1, LO.lay [LV.int IntKind.u16 (Chk.out c0), LV.bool (fl4 (Chk.flags c0) == (1 : Int)), LV.int IntKind.u32 (Chk.ppid c0), LV.raw (Value.slice (WholeI.mb I) (WholeI.md I) (WholeI.mc I))] 26), (0, LO.lay [LV.int IntKind.u16 (Chk.out c0), LV.bool (fl4 (Chk.flags c0) == (1 : Int)), LV.int IntKind.u32 (Chk.ppid c0), LV.raw (Value.slice (WholeI.mb I) (WholeI.md I) (WholeI.mc I))] 26)], nx := 2, orc := [LV.agg [LV.int IntKind.u8 (Chk.kind cp), LV.int IntKind.u8 (Chk.flags cp), LV.int IntKind.u32 (Chk.a cp), LV.int IntKind.u32 (Chk.b cp), LV.int IntKind.u16 (Chk.out cp), LV.int IntKind.u16 (Chk.inn cp), LV.int IntKind.u32 (Chk.ppid cp), LV.raw (Chk.r7 cp), LV.raw (Chk.r8 cp), LV.raw (Chk.r9 cp), LV.raw (Chk.r10 cp), LV.raw (Value.slice (Chk.db cp) (Chk.dn cp) (Chk.dc cp))], LV.agg [LV.int IntKind.u8 (Chk.kind ci), LV.int IntKind.u8 (Chk.flags ci), LV.int IntKind.u32 (Chk.a ci), LV.int IntKind.u32 (Chk.b ci), LV.int IntKind.u16 (Chk.out ci), LV.int IntKind.u16 (Chk.inn ci), LV.int IntKind.u32 (Chk.ppid ci), LV.raw (Chk.r7 ci), LV.raw (Chk.r8 ci), LV.raw (Chk.r9 ci), LV.raw (Chk.r10 ci), LV.raw (Value.slice (Chk.db ci) (Chk.dn ci) (Chk.dc ci))], LV.raw (Value.slice (Chk.db ci) (Chk.dn ci) (Chk.dc ci))] }))) (by kernel_rfl) ?_
    refine ⟨fun hlt => ?_, fun hge => ?_⟩
    · have hlt' : I.i < n := by simp at hlt; omega
      have hcok := hok ci (hcw hlt')
      have hi1 : ((I.i : Nat) : Int).toNat = I.i := by omega
      have hw2 : 0 < I.i → IntKind.i64.wrap ((I.i : Int) - 1) = ((I.i - 1 : Nat) : Int) := fun h => by rw [IntWalk.i64_in _ (by omega)]; omega
      have gi : cs[I.i]? = some ci := hci ▸ getD_get (by omega)
      have gp : cs[I.i - 1]? = some cp := hcp ▸ getD_get (by omega)
      have gpos : decide ((I.i : Int) > 0) = true → 0 < I.i := fun h => by simp at h; omega
      rw [hi1]
      refine ⟨⟨fun h => ⟨?_, trivial⟩, trivial⟩, ⟨fun h => ⟨?_, trivial⟩, trivial⟩, ⟨fun h => ⟨⟨by omega, by omega, hsome hp⟩, trivial⟩, trivial⟩, ⟨fun h => ⟨rd_row hrd gi _, trivial⟩, trivial⟩, fun hi => ?_, fun hi => ?_⟩
      · have := gpos h
        rw [hw2 this]
        exact ⟨by omega, by omega, hsome hp⟩
      · have := gpos h
        rw [hw2 this, show (((I.i - 1 : Nat) : Int)).toNat = I.i - 1 by omega]
        exact rd_row hrd gp _
      · have hi0 := gpos hi
        have hcpk := List.mem_of_getElem? gp
        have hchs : chain cs (I.i + 1) = follows cp ci := by
          rw [chain_succ, I.ch, Bool.true_and, ← hcp, ← hci, show (I.i == 0) = false by simp; omega, Bool.false_or]
        refine fun _ => Go.callDT rfl rfl rfl rfl rfl rfl rfl rfl fun w' hs => ?_
        have hf := rfollows_spec cp ci w' ((hin cp hcpk).sat hs) ((hin ci (hcw hlt')).sat hs)
        refine hf.mono fun e w'' he => ⟨.bool (follows cp ci), 1, he.1, rfl, he.2, ?_⟩
        refine Go.run mixed 300 [.raw (.slice ci.db ci.dn ci.dc)] rfl ?_
        refine Ok.eq (r' := Res.ite (!follows cp ci) (Res.leave Leave.ret { stk := [It.code [1, 1, 1, 0, 1, 0, 0, 1, 0, 0, 0, 1, 0, 1], It.code [1, 1, 1, 0, 1, 0, 0, 1, 0, 0, 1], It.blk 1, It.code [1, 1, 1, 0, 1, 0, 0, 1, 1], It.lp [1, 1, 1, 0, 1, 0, 0], It.blk 0, It.code [1, 1, 1, 1]], fr := [(3, LV.cst (Value.bool false)), (5, LV.int IntKind.i64 (↑(WholeI.i I) : Int)), (4, LV.ptr 1 0), (2, LV.ptr 0 0), (0, LV.raw (Value.slice base n c))], H := [(1, LO.lay [LV.int IntKind.u16 (Chk.out c0), LV.bool (fl4 (Chk.flags c0) == (1 : Int)), LV.int IntKind.u32 (Chk.ppid c0), LV.raw (Value.slice (WholeI.mb I) (WholeI.md I) (WholeI.mc I))] 26), (0, LO.lay [LV.int IntKind.u16 (0 : Int), LV.cst (Value.bool false), LV.int IntKind.u32 (0 : Int), LV.cst (Value.slice none 0 0)] 26)], nx := 2, orc := [LV.raw (Value.slice (Chk.db ci) (Chk.dn ci) (Chk.dc ci))] }) (Res.need [fun x ↦ (0 : Int) ≤ (↑(WholeI.i I) : Int) ∧ (↑(WholeI.i I) : Int) < (↑n : Int) ∧ Option.isSome base = true] (Res.need [fun β ↦ (fun x j ↦ aCell (Cfg.w0 (cfg14 w)) (Addr.add (adr base (Int.toNat (↑(WholeI.i I) : Int) * 12)) 11) j) β 0 = some (den β (LV.raw (Value.slice (Chk.db ci) (Chk.dn ci) (Chk.dc ci))))] (Res.stop { stk := [It.dop [1, 1, 1, 0, 1, 0, 0, 1, 0, 0, 1] 127 2 511 [(1, LO.lay [LV.int IntKind.u16 (Chk.out c0), LV.bool (fl4 (Chk.flags c0) == (1 : Int)), LV.int IntKind.u32 (Chk.ppid c0), LV.raw (Value.slice (WholeI.mb I) (WholeI.md I) (WholeI.mc I))] 26), (0, LO.lay [LV.int IntKind.u16 (0 : Int), LV.cst (Value.bool false), LV.int IntKind.u32 (0 : Int), LV.cst (Value.slice none 0 0)] 26)] 7, It.blk 1, It.code [1, 1, 1, 0, 1, 0, 0, 1, 1], It.lp [1, 1, 1, 0, 1, 0, 0], It.blk 0, It.code [1, 1, 1, 1]], fr := [(81, LV.raw (Value.slice (Chk.db ci) (Chk.dn ci) (Chk.dc ci))), (80, LV.raw (Value.pointer (some (Addr.add (adr base (Int.toNat (↑(WholeI.i I) : Int) * 12)) 11)))), (79, LV.raw (Value.pointer (some (adr base (Int.toNat (↑(WholeI.i I) : Int) * 12))))), (78, LV.int IntKind.i64 (↑(WholeI.i I) : Int)), (77, LV.raw (Value.slice base n c)), (76, LV.raw (Value.slice (WholeI.mb I) (WholeI.md I) (WholeI.mc I))), (75, LV.ptr 1 3), (5, LV.int IntKind.i64 (↑(WholeI.i I) : Int)), (4, LV.ptr 1 0), (2, LV.ptr 0 0), (0, LV.raw (Value.slice base n c))], H := [(1, LO.lay [LV.int IntKind.u16 (Chk.out c0), LV.bool (fl4 (Chk.flags c0) == (1 : Int)), LV.int IntKind.u32 (Chk.ppid c0), LV.raw (Value.slice (WholeI.mb I) (WholeI.md I) (WholeI.mc I))] 26), (0, LO.lay [LV.int IntKind.u16 (0 : Int), LV.cst (Value.bool false), LV.int IntKind.u32 (0 : Int), LV.cst (Value.slice none 0 0)] 26)], nx := 2, orc := [] })))) (by kernel_rfl) ?_
        rw [hi1]
        refine ⟨fun hno => ?_, fun hyes => ?_⟩
        · refine leave_okC (fun _ => nofun) rfl trivial fun w hs => wholeR_none ?_ hs.one
          have hn0 : follows cp ci = false := by simpa using hno
          simp [wholeOk, chain_le (hchs.trans hn0) (show I.i + 1 ≤ cs.length by omega)]
        · have hy : follows cp ci = true := by simpa using hyes
          exact ⟨⟨⟨by omega, by omega, hsome hp⟩, trivial⟩, ⟨hrd.field (rd_cell gi rfl), trivial⟩, fun _ => Go.reF (one_mul _) (tail hlt' (hchs.trans hy))⟩
      · have hi0 : I.i = 0 := by simp at hi; omega
        refine ⟨⟨⟨by omega, by omega, hsome hp⟩, trivial⟩, ⟨hrd.field (rd_cell gi rfl), trivial⟩, fun _ => tail hlt' (by rw [chain_succ, I.ch, hi0]; rfl)⟩
    · have hin' : I.i = n := by have := I.le; simp at hge; omega
      have htk : cs.take I.i = cs := List.take_of_length_le (by omega)
      have hh : wholeHead cs = true := by rw [hhead]; exact congrArg (!·) hgood
      have hw : wholeOk cs = true := by
        have := I.ch
        rw [hin', ← hn] at this
        rw [wholeOk, hh, this]; rfl
      have hml := I.len
      rw [htk] at hml
      refine ⟨⟨rfl, trivial⟩, leave_okC (fun _ => nofun) rfl trivial fun w hs => ⟨⟨c0.out, fl4 c0.flags == 1, c0.ppid, I.mb, I.md, I.mc, cs.flatMap Chk.bytes⟩, ?_, ?_, hml, ?_⟩⟩
      · rw [hw]; rfl
      · have := hs.right
        rwa [htk] at this
      · rw [if_pos hw, ← hc0]
        exact ⟨rfl, flag_4 (fin0 hp), rfl, rfl⟩

end Go.Proofs.Ytlgggljlegpaoaa
