/- Layer 13: the document's example, walked. -/
import Derived.Test.YtlgggljlegpaoaaA5
namespace Go.Proofs.Ytlgggljlegpaoaa
open Go Go.E Go.Proofs

def awM (b : Nat) : Msg := ⟨0, false, 0, some ⟨b, 0, none⟩, 5, 5, [1, 2, 3, 4, 5]⟩
def awC (fl a : Int) (ad : Option Addr × Nat) (l : List Int) : Chk := ⟨0, fl, a, 0, 0, 0, 0, .slice none 0 0, .slice none 0 0, .slice none 0 0, .slice none 0 0, ad.1, l.length, ad.2, l⟩
theorem aw_splits (b : Nat) (x y z : Option Addr × Nat) : splits (awM b) 9 0 2 [x, y, z] = [awC 2 9 x [1, 2], awC 0 10 y [3, 4], awC 1 11 z [5]] := by kernel_rfl
theorem aw_whole (x y z : Option Addr × Nat) : wholeOk [awC 2 9 x [1, 2], awC 0 10 y [3, 4], awC 1 11 z [5]] = true := by kernel_rfl
theorem aw_follows (x y : Option Addr × Nat) : follows (awC 2 9 x [1, 2]) (awC 0 10 y [3, 4]) = true := by kernel_rfl

theorem chk_ok_own {w0 w : World} {c : Chk} {F : HP} (ho : c.ones) (hs : c.dn ≤ 2000) (h : Sat w0 (c.own * F) w) : c.Ok w := by
  have hl := (own_len h).1
  refine ⟨ho, Rd.of_own h, by simpa using hl, fun hb => ?_, hs⟩
  rcases own_cases h with ⟨_, h0, _⟩ | ⟨s, ⟨h1, _⟩, _⟩
  · exact h0
  · rw [h1] at hb; cases hb

theorem oks_of_stars {w0 w : World} {ls : List Chk} {F : HP} (ho : ∀ c ∈ ls, c.ones ∧ c.dn ≤ 2000) (h : Sat w0 (stars (ls.map Chk.own) * F) w) : ∀ c ∈ ls, c.Ok w := fun c hc => by
  obtain ⟨k, hk⟩ := List.mem_iff_getElem?.1 hc
  have hk' : (ls.map Chk.own)[k]? = some c.own := by rw [List.getElem?_map, hk]; rfl
  rw [stars_get hk', star_assoc] at h
  exact chk_ok_own (ho c hc).1 (ho c hc).2 h

theorem rowAt_of {β : List Nat} {get : Nat → Option Value} : ∀ {l : List LV} {off : Nat}, (∀ j v, (denL β l)[j]? = some v → get (off + j) = some v) → E.rowAt β get off l
  | [], _, _ => trivial
  | x :: r, off, h => ⟨h 0 _ rfl, rowAt_of fun j v hj => by
    have := h (j + 1) v (by simpa [denL] using hj)
    rwa [show off + (j + 1) = off + 1 + j by omega] at this⟩
theorem arr_row {ls : List Chk} {k : Nat} {c : Chk} (hk : ls[k]? = some c) (pre sp : List Value) {off : Nat} (ho : off = pre.length + k * 12) (β : List Nat) : E.rowAt β (fun j => (pre ++ ls.flatMap Chk.cells ++ sp)[j]?) off c.lvL :=
  rowAt_of fun j v hj => by
    rw [ho, Nat.add_assoc]
    exact chk_cell hk pre sp j hj

set_option maxHeartbeats 1000000 in
set_option maxRecDepth 100000 in
theorem awake_spec (w : World) : Calls Try.prog 7 #[] w fun e w' => e = .returned (.bool true) ∧ Sat w 1 w' := by
  refine Calls.enter (cfg := cfg7 w) (β := []) (H := []) (F := 1) (l := []) Try.func7 rfl rfl (Nat.le_of_ble_eq_true rfl) rfl ((Sat.refl w).eq (one_mul 1).symm) ?_
  refine Go.run mixed 300 [] rfl ?_
  refine Ok.eq (r' := Res.new (Res.stop { stk := [It.reg [1, 0] [2, 3, 4, 5, 6, 7], It.code [1, 1]], fr := [(7, LV.agg [LV.int IntKind.u16 (0 : Int), LV.cst (Value.bool false), LV.int IntKind.u32 (0 : Int), LV.sl 0 0 5 5]), (6, LV.sl 0 0 5 5), (0, LV.cst (Value.bool false))], H := [(0, LO.lay [LV.int IntKind.u8 (1 : Int), LV.int IntKind.u8 (2 : Int), LV.int IntKind.u8 (3 : Int), LV.int IntKind.u8 (4 : Int), LV.int IntKind.u8 (5 : Int)] 5)], nx := 1, orc := [] })) (by kernel_rfl) ?_
  refine fun b1 => fun _ => Go.call rfl rfl rfl rfl rfl fun w1 hs => ?_
  have hb1 : w1.heap[b1]? = some (.cells (((awM b1).bytes.map (Value.int .u8)).toArray) 5) := Sat.get (F := 1) (hs.eq (by simp [satH, atom, denO, bk, mul_one, denL, den, awM]))
  have hrd : Rd w1 (awM b1).db ((awM b1).bytes.map (Value.int .u8)) := .inr ⟨_, rfl, (Array.getElem?_eq_some_iff.1 hb1).1, fun j u hj => by rw [Addr.add_lit, cell_of_heap hb1]; simpa using hj⟩
  have hsp := split_spec (awM b1) 9 0 2 w1 hrd rfl (by intro h; cases h) (Nat.le_refl _)
  refine hsp.mono fun e w2 he => ?_
  unfold SplitR at he
  rw [if_neg (by show ¬ ((5 : Nat) = 0 ∨ (2 : Int) < 1 ∨ (2 : Int) > 1172); omega), if_neg (by show ¬ (5 > 16384); omega)] at he
  obtain ⟨ads, base, c, g1, g2, g3, he1, he2⟩ := he
  replace g2 : 5 ≤ ads.length * 2 := g2
  replace g3 : (ads.length - 1) * 2 < 5 := g3
  obtain ⟨x, y, z, rfl⟩ : ∃ x y z, ads = [x, y, z] := by
    have h3 : ads.length = 3 := by omega
    match ads, h3 with
    | [x, y, z], _ => exact ⟨x, y, z, rfl⟩
  replace he2 : Sat w1 (own 39 12 base 3 c ((splits (awM b1) 9 0 2 [x, y, z]).flatMap Chk.cells) * stars ((splits (awM b1) 9 0 2 [x, y, z]).map Chk.own)) w2 := he2
  rw [aw_splits] at he2
  have hs2 := hs.trans he2
  rw [star_assoc] at hs2
  rcases own_cases hs2 with ⟨_, h0, _⟩ | ⟨S, ⟨rfl, k1, k2, k3, k4⟩, hF⟩
  · cases h0
  refine ⟨_, he1, After.keep (γ := [S.b]) (H' := [(1, .arr (S.pre ++ [awC 2 9 x [1, 2], awC 0 10 y [3, 4], awC 1 11 z [5]].flatMap Chk.cells ++ S.spare) 39)]) (F' := stars ([awC 2 9 x [1, 2], awC 0 10 y [3, 4], awC 1 11 z [5]].map Chk.own)) (lv := .tup [.sl 1 S.pre.length 3 c, .int .i64 0]) rfl rfl rfl rfl ?_ ?_⟩
  · refine Sat.right (p := pt b1 (.cells #[.int .u8 1, .int .u8 2, .int .u8 3, .int .u8 4, .int .u8 5] 5)) (hF.eq ?_)
    simp [satH, atom, denO, bk, mul_one, denL, den, star_assoc, stars]
    ac_rfl
  clear hsp hF hs2 he2
  obtain ⟨ls, hls⟩ : ∃ ls, ls = [awC 2 9 x [1, 2], awC 0 10 y [3, 4], awC 1 11 z [5]] := ⟨_, rfl⟩
  rw [← hls]
  refine Go.run mixed 300 [] rfl ?_
  refine Ok.eq (r' := Res.stop { stk := [It.reg [1, 1, 0] [1, 2, 3, 4, 5, 6, 7], It.code [1, 1, 1]], fr := [(12, LV.sl 1 (List.length (Strip.pre S)) 3 c), (2, LV.int IntKind.i64 (0 : Int)), (1, LV.sl 1 (List.length (Strip.pre S)) 3 c), (0, LV.cst (Value.bool false))], H := [(1, LO.arr (Strip.pre S ++ List.flatMap Chk.cells ls ++ Strip.spare S) 39)], nx := 2, orc := [] }) (by kernel_rfl) ?_
  refine fun _ => Go.callT rfl rfl rfl rfl rfl rfl fun w3 hs => ?_
  have hb3 : w3.heap[S.b]? = some (.cells (S.pre ++ ls.flatMap Chk.cells ++ S.spare).toArray 39) := arr_heap (id := 1) rfl hs
  have hrd3 : Rd w3 (some ⟨S.b, S.pre.length, none⟩) (ls.flatMap Chk.cells) := .inr ⟨_, rfl, (Array.getElem?_eq_some_iff.1 hb3).1, fun j u hj => by
    rw [Addr.add_lit, cell_of_heap hb3]
    have := (At.mid (a := S.pre) (m := ls.flatMap Chk.cells) (b := S.spare)).get hj
    simpa using this⟩
  have hok3 : ∀ c ∈ ls, c.Ok w3 := oks_of_stars (F := satH w _ _) (by rw [hls]; intro c hc; simp at hc; rcases hc with rfl | rfl | rfl <;> exact ⟨⟨rfl, rfl, rfl, rfl⟩, by simp [awC]⟩) (hs.eq (star_comm _ _))
  have hwh := whole_spec (some ⟨S.b, S.pre.length, none⟩) 3 c ls w3 (by rw [hls]; rfl) (by omega) hrd3 hok3
  refine hwh.mono fun e w4 he => ?_
  obtain ⟨m2, he1, he2, he3, he4⟩ := he
  have hwo : wholeOk ls = true := by rw [hls]; exact aw_whole x y z
  rw [hwo] at he1
  rw [if_pos hwo] at he4
  obtain ⟨q1, q2, q3, q4⟩ := he4
  have h5 : m2.dn = 5 := by rw [← he3, q4, hls]; rfl
  refine ⟨.tup [m2.lv, .bool true], _, he1, rfl, he2, ?_⟩
  refine Go.run mixed 300 [.int .u8 2, .int .u8 0, .int .u8 1, .int .u32 11, .raw (.slice z.1 1 z.2), .agg (awC 2 9 x [1, 2]).lvL, .agg (awC 0 10 y [3, 4]).lvL] rfl ?_
  refine Ok.eq (r' := Res.new (Res.need [fun x ↦ Value.one (Value.slice (Msg.db m2) (Msg.dn m2) (Msg.dc m2)) = true] (Res.need [fun β ↦ true = true → allP β [fun x ↦ (0 : Int) ≤ (0 : Int) ∧ (0 : Int) < (↑3 : Int)]] (Res.need [fun β ↦ true = true → allP β [fun β ↦ (fun x j ↦ (Strip.pre S ++ List.flatMap Chk.cells ls ++ Strip.spare S)[j]?) β (List.length (Strip.pre S) + 0 + 1) = some (den β (LV.int IntKind.u8 (2 : Int)))]] (Res.need [fun β ↦ true = true → allP β [fun x ↦ (0 : Int) ≤ (1 : Int) ∧ (1 : Int) < (↑3 : Int)]] (Res.need [fun β ↦ true = true → allP β [fun β ↦ (fun x j ↦ (Strip.pre S ++ List.flatMap Chk.cells ls ++ Strip.spare S)[j]?) β (List.length (Strip.pre S) + 12 + 1) = some (den β (LV.int IntKind.u8 (0 : Int)))]] (Res.need [fun β ↦ true = true → allP β [fun x ↦ (0 : Int) ≤ (2 : Int) ∧ (2 : Int) < (↑3 : Int)]] (Res.need [fun β ↦ true = true → allP β [fun β ↦ (fun x j ↦ (Strip.pre S ++ List.flatMap Chk.cells ls ++ Strip.spare S)[j]?) β (List.length (Strip.pre S) + 24 + 1) = some (den β (LV.int IntKind.u8 (1 : Int)))]] (Res.need [fun β ↦ true = true → allP β [fun x ↦ (0 : Int) ≤ (2 : Int) ∧ (2 : Int) < (↑3 : Int)]] (Res.need [fun β ↦ true = true → allP β [fun β ↦ (fun x j ↦ (Strip.pre S ++ List.flatMap Chk.cells ls ++ Strip.spare S)[j]?) β (List.length (Strip.pre S) + 24 + 2) = some (den β (LV.int IntKind.u32 (11 : Int)))]] (Res.need [fun β ↦ true = true → allP β [fun x ↦ (0 : Int) ≤ (2 : Int) ∧ (2 : Int) < (↑3 : Int)]] (Res.need [fun β ↦ true = true → allP β [fun β ↦ (fun x j ↦ (Strip.pre S ++ List.flatMap Chk.cells ls ++ Strip.spare S)[j]?) β (List.length (Strip.pre S) + 24 + 11) = some (den β (LV.raw (Value.slice (Prod.fst z) 1 (Prod.snd z))))]] (Res.need [fun β ↦ (true && (↑(Msg.dn m2) : Int) == (5 : Int)) = true → allP β [fun x ↦ (0 : Int) ≤ (0 : Int) ∧ (0 : Int) < (↑3 : Int)]] (Res.need [fun β ↦ (true && (↑(Msg.dn m2) : Int) == (5 : Int)) = true → allP β [fun β ↦ E.rowAt β ((fun x j ↦ (Strip.pre S ++ List.flatMap Chk.cells ls ++ Strip.spare S)[j]?) β) (List.length (Strip.pre S) + 0) (Chk.lvL (awC (2 : Int) (9 : Int) x [(1 : Int), (2 : Int)]))]] (Res.need [fun β ↦ (true && (↑(Msg.dn m2) : Int) == (5 : Int)) = true → allP β [fun x ↦ (0 : Int) ≤ (1 : Int) ∧ (1 : Int) < (↑3 : Int)]] (Res.need [fun β ↦ (true && (↑(Msg.dn m2) : Int) == (5 : Int)) = true → allP β [fun β ↦ E.rowAt β ((fun x j ↦ (Strip.pre S ++ List.flatMap Chk.cells ls ++ Strip.spare S)[j]?) β) (List.length (Strip.pre S) + 12) (Chk.lvL (awC (0 : Int) (10 : Int) y [(3 : Int), (4 : Int)]))]] (Res.ite (true && (↑(Msg.dn m2) : Int) == (5 : Int)) (Res.stop { stk := [It.dop [1, 1, 1, 0] 576460752303423487 2 4611686018427387903 [(2, LO.lay [LV.int IntKind.u16 (Msg.stream m2), LV.bool (Msg.unord m2), LV.int IntKind.u32 (Msg.ppid m2), LV.raw (Value.slice (Msg.db m2) (Msg.dn m2) (Msg.dc m2))] 26), (1, LO.arr (Strip.pre S ++ List.flatMap Chk.cells ls ++ Strip.spare S) 39)] 59, It.code [1, 1, 1, 1]], fr := [(68, LV.cst (Value.bool true)), (74, LV.agg [LV.int IntKind.u8 (Chk.kind (awC (0 : Int) (10 : Int) y [(3 : Int), (4 : Int)])), LV.int IntKind.u8 (Chk.flags (awC (0 : Int) (10 : Int) y [(3 : Int), (4 : Int)])), LV.int IntKind.u32 (Chk.a (awC (0 : Int) (10 : Int) y [(3 : Int), (4 : Int)])), LV.int IntKind.u32 (Chk.b (awC (0 : Int) (10 : Int) y [(3 : Int), (4 : Int)])), LV.int IntKind.u16 (Chk.out (awC (0 : Int) (10 : Int) y [(3 : Int), (4 : Int)])), LV.int IntKind.u16 (Chk.inn (awC (0 : Int) (10 : Int) y [(3 : Int), (4 : Int)])), LV.int IntKind.u32 (Chk.ppid (awC (0 : Int) (10 : Int) y [(3 : Int), (4 : Int)])), LV.raw (Chk.r7 (awC (0 : Int) (10 : Int) y [(3 : Int), (4 : Int)])), LV.raw (Chk.r8 (awC (0 : Int) (10 : Int) y [(3 : Int), (4 : Int)])), LV.raw (Chk.r9 (awC (0 : Int) (10 : Int) y [(3 : Int), (4 : Int)])), LV.raw (Chk.r10 (awC (0 : Int) (10 : Int) y [(3 : Int), (4 : Int)])), LV.raw (Value.slice (Chk.db (awC (0 : Int) (10 : Int) y [(3 : Int), (4 : Int)])) (Chk.dn (awC (0 : Int) (10 : Int) y [(3 : Int), (4 : Int)])) (Chk.dc (awC (0 : Int) (10 : Int) y [(3 : Int), (4 : Int)])))]), (73, LV.ptr 1 (List.length (Strip.pre S) + 12)), (72, LV.sl 1 (List.length (Strip.pre S)) 3 c), (71, LV.agg [LV.int IntKind.u8 (Chk.kind (awC (2 : Int) (9 : Int) x [(1 : Int), (2 : Int)])), LV.int IntKind.u8 (Chk.flags (awC (2 : Int) (9 : Int) x [(1 : Int), (2 : Int)])), LV.int IntKind.u32 (Chk.a (awC (2 : Int) (9 : Int) x [(1 : Int), (2 : Int)])), LV.int IntKind.u32 (Chk.b (awC (2 : Int) (9 : Int) x [(1 : Int), (2 : Int)])), LV.int IntKind.u16 (Chk.out (awC (2 : Int) (9 : Int) x [(1 : Int), (2 : Int)])), LV.int IntKind.u16 (Chk.inn (awC (2 : Int) (9 : Int) x [(1 : Int), (2 : Int)])), LV.int IntKind.u32 (Chk.ppid (awC (2 : Int) (9 : Int) x [(1 : Int), (2 : Int)])), LV.raw (Chk.r7 (awC (2 : Int) (9 : Int) x [(1 : Int), (2 : Int)])), LV.raw (Chk.r8 (awC (2 : Int) (9 : Int) x [(1 : Int), (2 : Int)])), LV.raw (Chk.r9 (awC (2 : Int) (9 : Int) x [(1 : Int), (2 : Int)])), LV.raw (Chk.r10 (awC (2 : Int) (9 : Int) x [(1 : Int), (2 : Int)])), LV.raw (Value.slice (Chk.db (awC (2 : Int) (9 : Int) x [(1 : Int), (2 : Int)])) (Chk.dn (awC (2 : Int) (9 : Int) x [(1 : Int), (2 : Int)])) (Chk.dc (awC (2 : Int) (9 : Int) x [(1 : Int), (2 : Int)])))]), (70, LV.ptr 1 (List.length (Strip.pre S) + 0)), (69, LV.sl 1 (List.length (Strip.pre S)) 3 c), (67, LV.bool (true && (↑(Msg.dn m2) : Int) == (5 : Int))), (62, LV.bool true), (61, LV.bool true), (59, LV.bool true), (58, LV.bool true), (51, LV.bool true), (50, LV.bool true), (44, LV.bool true), (43, LV.bool true), (37, LV.bool true), (36, LV.bool true), (30, LV.bool true), (29, LV.bool true), (23, LV.bool true), (22, LV.bool true), (18, LV.bool true), (17, LV.bool true), (16, LV.int IntKind.i64 (0 : Int)), (4, LV.bool true), (3, LV.ptr 2 0), (2, LV.int IntKind.i64 (0 : Int)), (1, LV.sl 1 (List.length (Strip.pre S)) 3 c), (0, LV.cst (Value.bool false))], H := [(2, LO.lay [LV.int IntKind.u16 (Msg.stream m2), LV.bool (Msg.unord m2), LV.int IntKind.u32 (Msg.ppid m2), LV.raw (Value.slice (Msg.db m2) (Msg.dn m2) (Msg.dc m2))] 26), (1, LO.arr (Strip.pre S ++ List.flatMap Chk.cells ls ++ Strip.spare S) 39)], nx := 3, orc := [] }) (Res.leave Leave.ret { stk := [It.code [1, 1, 1, 1]], fr := [(0, LV.cst (Value.bool false)), (4, LV.bool true), (3, LV.ptr 2 0), (2, LV.int IntKind.i64 (0 : Int)), (1, LV.sl 1 (List.length (Strip.pre S)) 3 c)], H := [(2, LO.lay [LV.int IntKind.u16 (Msg.stream m2), LV.bool (Msg.unord m2), LV.int IntKind.u32 (Msg.ppid m2), LV.raw (Value.slice (Msg.db m2) (Msg.dn m2) (Msg.dc m2))] 26), (1, LO.arr (Strip.pre S ++ List.flatMap Chk.cells ls ++ Strip.spare S) 39)], nx := 3, orc := [] })))))))))))))))))) (by kernel_rfl) ?_
  have l0 : ls[0]? = some (awC 2 9 x [1, 2]) := by rw [hls]; rfl
  have l1 : ls[1]? = some (awC 0 10 y [3, 4]) := by rw [hls]; rfl
  have l2 : ls[2]? = some (awC 1 11 z [5]) := by rw [hls]; rfl
  have d5 : (true && ((m2.dn : Int) == 5)) = true := by rw [h5]; rfl
  refine fun b4 => ⟨⟨rfl, trivial⟩, ⟨fun _ => ⟨by omega, trivial⟩, trivial⟩, ⟨fun _ => ⟨chk_cell l0 S.pre S.spare 1 rfl, trivial⟩, trivial⟩, ⟨fun _ => ⟨by omega, trivial⟩, trivial⟩, ⟨fun _ => ⟨chk_cell l1 S.pre S.spare 1 rfl, trivial⟩, trivial⟩,
    ⟨fun _ => ⟨by omega, trivial⟩, trivial⟩, ⟨fun _ => ⟨chk_cell l2 S.pre S.spare 1 rfl, trivial⟩, trivial⟩, ⟨fun _ => ⟨by omega, trivial⟩, trivial⟩, ⟨fun _ => ⟨chk_cell l2 S.pre S.spare 2 rfl, trivial⟩, trivial⟩,
    ⟨fun _ => ⟨by omega, trivial⟩, trivial⟩, ⟨fun _ => ⟨chk_cell l2 S.pre S.spare 11 rfl, trivial⟩, trivial⟩,
    ⟨fun _ => ⟨by omega, trivial⟩, trivial⟩, ⟨fun _ => ⟨arr_row l0 S.pre S.spare (by omega) _, trivial⟩, trivial⟩, ⟨fun _ => ⟨by omega, trivial⟩, trivial⟩, ⟨fun _ => ⟨arr_row l1 S.pre S.spare (by omega) _, trivial⟩, trivial⟩, fun _ => ?_, fun h => by rw [d5] at h; cases h⟩
  refine fun _ => Go.callDT rfl rfl rfl rfl rfl rfl rfl rfl fun w5 hs => ?_
  have hf := follows_spec (awC 2 9 x [1, 2]) (awC 0 10 y [3, 4]) ⟨rfl, rfl, rfl, rfl⟩ ⟨rfl, rfl, rfl, rfl⟩ w5
  rw [aw_follows] at hf
  refine hf.mono fun e w6 he => ⟨.bool true, 1, he.1, rfl, he.2, ?_⟩
  refine Go.run mixed 300 [] rfl ?_
  refine Ok.eq (r' := Res.leave Leave.ret { stk := [It.code [1, 1, 1, 1]], fr := [(0, LV.bool true), (4, LV.bool true), (3, LV.ptr 2 0), (2, LV.int IntKind.i64 (0 : Int)), (1, LV.sl 1 (List.length (Strip.pre S)) 3 c)], H := [(2, LO.lay [LV.int IntKind.u16 (Msg.stream m2), LV.bool (Msg.unord m2), LV.int IntKind.u32 (Msg.ppid m2), LV.raw (Value.slice (Msg.db m2) (Msg.dn m2) (Msg.dc m2))] 26), (1, LO.arr (Strip.pre S ++ List.flatMap Chk.cells ls ++ Strip.spare S) 39)], nx := 3, orc := [] }) (by kernel_rfl) ?_
  exact leave_ok (fun _ => nofun) rfl fun w hs => ⟨rfl, hs.one⟩

end Go.Proofs.Ytlgggljlegpaoaa
