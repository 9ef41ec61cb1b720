/- Layer 13: SplitBack, walked. -/
import Derived.Test.YtlgggljlegpaoaaA10
namespace Go.Proofs.Ytlgggljlegpaoaa
open Go Go.E Go.Proofs

theorem own_cap {e : TypeId} {sz n c : Nat} {base : Option Addr} {l : List Value} {F : HP} {w0 w : World} (h : Sat w0 (own e sz base n c l * F) w) : n ≤ c := by
  rcases own_cases h with ⟨_, h0, h1, _⟩ | ⟨S, ⟨_, _, h1, _⟩, _⟩
  · omega
  · exact h1
theorem msg_ok_own {w0 w : World} {m : Msg} {F : HP} (h : Sat w0 (m.own * F) w) : m.Ok w := by
  have hl := (own_len h).1
  refine ⟨Rd.of_own h, by simpa using hl, fun hb => ?_⟩
  rcases own_cases h with ⟨_, h0, _⟩ | ⟨s, ⟨h1, _⟩, _⟩
  · exact h0
  · rw [h1] at hb; cases hb

/-- Without the first one. -/
theorem rd_tail {w : World} {base : Option Addr} {ls : List Chk} {c : Nat} (h : Rd w base (ls.flatMap Chk.cells)) (hc : ls.length ≤ c) : Rd w (if c = 1 then base else base.map fun a => a.add 12) ((ls.drop 1).flatMap Chk.cells) := by
  by_cases h1 : c = 1
  · have : ls.drop 1 = [] := List.drop_of_length_le (by omega)
    rw [this]; exact Rd.nil _ _
  · rw [if_neg h1]
    refine h.part fun j v hj => ?_
    cases ls with
    | nil => simp at hj
    | cons x r =>
      simp only [List.drop_succ_cons, List.drop_zero] at hj
      rw [List.flatMap_cons, List.getElem?_append_right (by show x.cells.length ≤ _; simp [Chk.cells])]
      rw [← hj]; congr 1
      simp [Chk.cells]
theorem rd_init {w : World} {base : Option Addr} {ls : List Chk} (h : Rd w base (ls.flatMap Chk.cells)) (k : Nat) : Rd w base ((ls.take k).flatMap Chk.cells) := by
  refine h.pre fun j v hj => ?_
  rw [Nat.zero_add]
  have e : ls.flatMap Chk.cells = (ls.take k).flatMap Chk.cells ++ (ls.drop k).flatMap Chk.cells := by rw [← List.flatMap_append, List.take_append_drop]
  rw [e, List.getElem?_append_left (List.getElem?_eq_some_iff.1 hj).1]
  exact hj

theorem mod_small (x : Int) (K : Nat) (hK : 1 ≤ K) : ∃ k : Nat, k < K ∧ (ibits .and .i64 x 65535).tmod (K : Int) = (k : Int) := by
  have e : (BitVec.ofInt 64 65535).toNat = 65535 := by decide
  have h : (BitVec.ofInt 64 x &&& BitVec.ofInt 64 65535).toNat ≤ 65535 := by rw [BitVec.toNat_and, e]; exact Nat.and_le_right
  have h2 : ibits .and .i64 x 65535 = ((BitVec.ofInt 64 x &&& BitVec.ofInt 64 65535).toNat : Int) := by
    show IntKind.i64.wrap ((BitVec.ofInt 64 x &&& BitVec.ofInt 64 65535).toNat : Int) = _
    exact IntWalk.i64_in _ (by omega)
  rw [h2]
  refine ⟨(BitVec.ofInt 64 x &&& BitVec.ofInt 64 65535).toNat % K, Nat.mod_lt _ (by omega), ?_⟩
  exact (Int.ofNat_tmod _ _).symm

theorem chk_put {ls : List Chk} {k : Nat} (hk : k < ls.length) (pre sp : List Value) (c : Chk) : setL (pre ++ ls.flatMap Chk.cells ++ sp) (pre.length + k * 12) c.cells = pre ++ (ls.set k c).flatMap Chk.cells ++ sp := by
  have hfl : (ls.flatMap Chk.cells).length = 12 * ls.length := flat_length (n := 12) (fun _ _ => rfl)
  rw [setL_mid (by rw [hfl]; show k * 12 + 12 ≤ _; omega), Nat.mul_comm k 12, flat_set (g := Chk.cells) (n := 12) (fun _ _ => rfl) (List.getElem?_eq_getElem hk) rfl]
theorem chk_room' {ls : List Chk} {k : Nat} (hk : k < ls.length) (pre sp : List Value) : pre.length + k * 12 + 12 ≤ (pre ++ ls.flatMap Chk.cells ++ sp).length := by
  have hfl : (ls.flatMap Chk.cells).length = 12 * ls.length := flat_length (n := 12) (fun _ _ => rfl)
  simp only [List.length_append, hfl]
  omega

set_option maxHeartbeats 1000000 in
set_option maxRecDepth 100000 in
theorem back_walk (m : Msg) (tsn ssn most at_ : Int) (w : World) (hm : m.In w) : Calls Try.prog 5 #[m.val, .int .u32 tsn, .int .u16 ssn, .int .i64 most, .int .i64 at_] w fun e w' => e = .returned (.bool true) ∧ Sat w 1 w' := by
  refine Calls.enter (cfg := cfg5 w) (β := []) (H := []) (F := 1) (l := [m.lv, .int .u32 tsn, .int .u16 ssn, .int .i64 most, .int .i64 at_]) Try.func5 rfl rfl (Nat.le_of_ble_eq_true rfl) rfl ((Sat.refl w).eq (one_mul 1).symm) ?_
  refine Go.run mixed 300 [] rfl ?_
  refine Ok.eq (r' := Res.need [fun x ↦ Value.one (Value.slice (Msg.db m) (Msg.dn m) (Msg.dc m)) = true] (Res.new (Res.stop { stk := [It.reg [1, 0] [0, 1], It.code [1, 1]], fr := [(10, LV.cst (Value.bool false)), (5, LV.ptr 0 0), (0, LV.agg [LV.int IntKind.u16 (Msg.stream m), LV.bool (Msg.unord m), LV.int IntKind.u32 (Msg.ppid m), LV.raw (Value.slice (Msg.db m) (Msg.dn m) (Msg.dc m))]), (1, LV.int IntKind.u32 tsn), (2, LV.int IntKind.u16 ssn), (3, LV.int IntKind.i64 most), (4, LV.int IntKind.i64 at_)], H := [(0, LO.lay [LV.int IntKind.u16 (Msg.stream m), LV.bool (Msg.unord m), LV.int IntKind.u32 (Msg.ppid m), LV.raw (Value.slice (Msg.db m) (Msg.dn m) (Msg.dc m))] 26)], nx := 1, orc := [] }))) (by kernel_rfl) ?_
  refine ⟨⟨rfl, trivial⟩, fun b1 => fun _ => Go.callT rfl rfl rfl rfl rfl rfl fun w1 hs => (awake_spec w1).mono fun e w2 he => ⟨.bool true, 1, he.1, rfl, he.2, ?_⟩⟩
  refine Go.run mixed 300 [] rfl ?_
  refine Ok.eq (r' := Res.ite (decide ((↑(Msg.dn m) : Int) > (2000 : Int))) (Res.leave Leave.ret { stk := [It.code [1, 1, 0, 1, 0, 1], It.code [1, 1, 1]], fr := [(10, LV.bool true), (11, LV.bool true), (5, LV.ptr 0 0), (0, LV.agg [LV.int IntKind.u16 (Msg.stream m), LV.bool (Msg.unord m), LV.int IntKind.u32 (Msg.ppid m), LV.raw (Value.slice (Msg.db m) (Msg.dn m) (Msg.dc m))]), (1, LV.int IntKind.u32 tsn), (2, LV.int IntKind.u16 ssn), (3, LV.int IntKind.i64 most), (4, LV.int IntKind.i64 at_)], H := [(0, LO.lay [LV.int IntKind.u16 (Msg.stream m), LV.bool (Msg.unord m), LV.int IntKind.u32 (Msg.ppid m), LV.raw (Value.slice (Msg.db m) (Msg.dn m) (Msg.dc m))] 26)], nx := 1, orc := [] }) (Res.stop { stk := [It.reg [1, 1, 1, 0] [4, 5, 6, 7, 8, 9], It.code [1, 1, 1, 1]], fr := [(34, LV.int IntKind.i64 most), (33, LV.int IntKind.u16 ssn), (32, LV.int IntKind.u32 tsn), (31, LV.agg [LV.int IntKind.u16 (Msg.stream m), LV.bool (Msg.unord m), LV.int IntKind.u32 (Msg.ppid m), LV.raw (Value.slice (Msg.db m) (Msg.dn m) (Msg.dc m))]), (11, LV.bool true), (10, LV.cst (Value.bool false)), (5, LV.ptr 0 0), (0, LV.agg [LV.int IntKind.u16 (Msg.stream m), LV.bool (Msg.unord m), LV.int IntKind.u32 (Msg.ppid m), LV.raw (Value.slice (Msg.db m) (Msg.dn m) (Msg.dc m))]), (1, LV.int IntKind.u32 tsn), (2, LV.int IntKind.u16 ssn), (3, LV.int IntKind.i64 most), (4, LV.int IntKind.i64 at_)], H := [(0, LO.lay [LV.int IntKind.u16 (Msg.stream m), LV.bool (Msg.unord m), LV.int IntKind.u32 (Msg.ppid m), LV.raw (Value.slice (Msg.db m) (Msg.dn m) (Msg.dc m))] 26)], nx := 1, orc := [] })) (by kernel_rfl) ?_
  refine ⟨fun _ => leave_ok (fun _ => nofun) rfl fun w hs => ⟨rfl, hs.one⟩, fun hsm => ?_⟩
  have hd : m.dn ≤ 2000 := by simp at hsm; omega
  refine fun _ => Go.callT rfl rfl rfl rfl rfl rfl fun w1 hs => ?_
  have hsp := splitU_spec m tsn ssn most w1 (hm.toOk.sat hs) hm.cap hd
  refine hsp.mono fun e w2 he => ?_
  obtain ⟨ls, bx, cx, er, he1, he2, hx1, hx2⟩ := he
  refine ⟨.tup [.raw (.slice bx ls.length cx), .int .i64 er], _, he1, rfl, he2, ?_⟩
  refine Go.run mixed 300 [] rfl ?_
  refine Ok.eq (r' := Res.ite (er != (0 : Int)) (Res.leave Leave.ret { stk := [It.code [1, 1, 1, 1, 0, 1, 0, 1], It.code [1, 1, 1, 1, 1]], fr := [(10, LV.bool (true && er == (1 : Int) && (↑(List.length ls) : Int) == (0 : Int))), (13, LV.int IntKind.i64 er), (12, LV.raw (Value.slice bx (List.length ls) cx)), (11, LV.bool true), (5, LV.ptr 0 0), (0, LV.agg [LV.int IntKind.u16 (Msg.stream m), LV.bool (Msg.unord m), LV.int IntKind.u32 (Msg.ppid m), LV.raw (Value.slice (Msg.db m) (Msg.dn m) (Msg.dc m))]), (1, LV.int IntKind.u32 tsn), (2, LV.int IntKind.u16 ssn), (3, LV.int IntKind.i64 most), (4, LV.int IntKind.i64 at_)], H := [(0, LO.lay [LV.int IntKind.u16 (Msg.stream m), LV.bool (Msg.unord m), LV.int IntKind.u32 (Msg.ppid m), LV.raw (Value.slice (Msg.db m) (Msg.dn m) (Msg.dc m))] 26)], nx := 1, orc := [] }) (Res.stop { stk := [It.reg [1, 1, 1, 1, 1, 0] [1, 2, 3, 4, 5, 6, 7], It.code [1, 1, 1, 1, 1, 1]], fr := [(51, LV.raw (Value.slice bx (List.length ls) cx)), (13, LV.int IntKind.i64 er), (12, LV.raw (Value.slice bx (List.length ls) cx)), (11, LV.bool true), (10, LV.cst (Value.bool false)), (5, LV.ptr 0 0), (0, LV.agg [LV.int IntKind.u16 (Msg.stream m), LV.bool (Msg.unord m), LV.int IntKind.u32 (Msg.ppid m), LV.raw (Value.slice (Msg.db m) (Msg.dn m) (Msg.dc m))]), (1, LV.int IntKind.u32 tsn), (2, LV.int IntKind.u16 ssn), (3, LV.int IntKind.i64 most), (4, LV.int IntKind.i64 at_)], H := [(0, LO.lay [LV.int IntKind.u16 (Msg.stream m), LV.bool (Msg.unord m), LV.int IntKind.u32 (Msg.ppid m), LV.raw (Value.slice (Msg.db m) (Msg.dn m) (Msg.dc m))] 26)], nx := 1, orc := [] })) (by kernel_rfl) ?_
  refine ⟨fun hbad => leave_ok (fun _ => nofun) rfl fun w hs => ⟨?_, hs.one⟩, fun hgood => ?_⟩
  · rcases hx2 with ⟨h, hl⟩ | ⟨h, _⟩
    · rw [h, hl]; rfl
    · rw [h] at hbad; simp at hbad
  obtain ⟨n, ads, n1, n2, g0, g1, g2, hxl⟩ : ∃ (n : Nat) (ads : List (Option Addr × Nat)), 1 ≤ n ∧ n ≤ 1172 ∧ 0 < ads.length ∧ m.dn ≤ ads.length * n ∧ (ads.length - 1) * n < m.dn ∧ ls = splits m tsn ssn n ads := by
    rcases hx2 with ⟨h, _⟩ | ⟨_, h⟩
    · rw [h] at hgood; simp at hgood
    · exact h
  have ex1 : ls.length = ads.length := by rw [hxl, splits_length]
  have bx1 : ls.length ≤ 2000 := by rw [ex1]; have := Nat.le_mul_of_pos_right (ads.length - 1) n1; omega
  have hck : ∀ k, k < ls.length → ∃ ad, ls[k]? = some (ck m tsn ssn n k ls.length ad) := fun k hk => by
    rw [ex1] at hk
    obtain ⟨ad, h⟩ := splits_ck (m := m) (tsn := tsn) (ssn := ssn) (n := n) hk
    exact ⟨ad, by rw [hxl, splits_length]; exact h⟩
  -- the message, whole
  refine fun _ => Go.callT rfl rfl rfl rfl rfl rfl fun w3 hs => ?_
  have h0 : Sat w (own 39 12 bx ls.length cx (ls.flatMap Chk.cells) * (stars (ls.map Chk.own) * satH w [b1] (mH m))) w3 := hs.eq (by simp only [mul_one]; ac_rfl)
  have hok := oks_of_stars (ls := ls) hx1 h0.right
  have hwh := whole_spec bx ls.length cx ls w3 rfl (by omega) (Rd.of_own h0) hok
  refine hwh.mono fun e w4 he => ?_
  obtain ⟨m2, he1, he2, he3, he4⟩ := he
  have hwo : wholeOk ls = true := by rw [hxl]; exact splits_whole g0
  rw [hwo] at he1
  rw [if_pos hwo] at he4
  obtain ⟨q1, q2, q3, q4⟩ := he4
  refine ⟨.tup [m2.lv, .bool true], _, he1, rfl, he2, ?_⟩
  refine Go.run mixed 300 [] rfl ?_
  refine Ok.eq (r' := Res.new (Res.need [fun x ↦ Value.one (Value.slice (Msg.db m2) (Msg.dn m2) (Msg.dc m2)) = true] (Res.ite true (Res.stop { stk := [It.reg [1, 1, 1, 1, 1, 1, 0, 0] [5, 6, 7, 8, 9, 10, 11, 12], It.code [1, 1, 1, 1, 1, 1, 0, 1], It.code [1, 1, 1, 1, 1, 1, 1]], fr := [(57, LV.cst (Value.bool false)), (59, LV.agg [LV.int IntKind.u16 (Msg.stream m2), LV.bool (Msg.unord m2), LV.int IntKind.u32 (Msg.ppid m2), LV.raw (Value.slice (Msg.db m2) (Msg.dn m2) (Msg.dc m2))]), (58, LV.agg [LV.int IntKind.u16 (Msg.stream m), LV.bool (Msg.unord m), LV.int IntKind.u32 (Msg.ppid m), LV.raw (Value.slice (Msg.db m) (Msg.dn m) (Msg.dc m))]), (56, LV.bool false), (55, LV.bool true), (15, LV.bool true), (14, LV.ptr 1 0), (13, LV.int IntKind.i64 er), (12, LV.raw (Value.slice bx (List.length ls) cx)), (11, LV.bool true), (10, LV.cst (Value.bool false)), (5, LV.ptr 0 0), (0, LV.agg [LV.int IntKind.u16 (Msg.stream m), LV.bool (Msg.unord m), LV.int IntKind.u32 (Msg.ppid m), LV.raw (Value.slice (Msg.db m) (Msg.dn m) (Msg.dc m))]), (1, LV.int IntKind.u32 tsn), (2, LV.int IntKind.u16 ssn), (3, LV.int IntKind.i64 most), (4, LV.int IntKind.i64 at_)], H := [(1, LO.lay [LV.int IntKind.u16 (Msg.stream m2), LV.bool (Msg.unord m2), LV.int IntKind.u32 (Msg.ppid m2), LV.raw (Value.slice (Msg.db m2) (Msg.dn m2) (Msg.dc m2))] 26), (0, LO.lay [LV.int IntKind.u16 (Msg.stream m), LV.bool (Msg.unord m), LV.int IntKind.u32 (Msg.ppid m), LV.raw (Value.slice (Msg.db m) (Msg.dn m) (Msg.dc m))] 26)], nx := 2, orc := [] }) (Res.leave Leave.ret { stk := [It.code [1, 1, 1, 1, 1, 1, 0, 1, 0, 1], It.code [1, 1, 1, 1, 1, 1, 1]], fr := [(10, LV.cst (Value.bool false)), (15, LV.bool true), (14, LV.ptr 1 0), (13, LV.int IntKind.i64 er), (12, LV.raw (Value.slice bx (List.length ls) cx)), (11, LV.bool true), (5, LV.ptr 0 0), (0, LV.agg [LV.int IntKind.u16 (Msg.stream m), LV.bool (Msg.unord m), LV.int IntKind.u32 (Msg.ppid m), LV.raw (Value.slice (Msg.db m) (Msg.dn m) (Msg.dc m))]), (1, LV.int IntKind.u32 tsn), (2, LV.int IntKind.u16 ssn), (3, LV.int IntKind.i64 most), (4, LV.int IntKind.i64 at_)], H := [(1, LO.lay [LV.int IntKind.u16 (Msg.stream m2), LV.bool (Msg.unord m2), LV.int IntKind.u32 (Msg.ppid m2), LV.raw (Value.slice (Msg.db m2) (Msg.dn m2) (Msg.dc m2))] 26), (0, LO.lay [LV.int IntKind.u16 (Msg.stream m), LV.bool (Msg.unord m), LV.int IntKind.u32 (Msg.ppid m), LV.raw (Value.slice (Msg.db m) (Msg.dn m) (Msg.dc m))] 26)], nx := 2, orc := [] })))) (by kernel_rfl) ?_
  refine fun b2 => ⟨⟨rfl, trivial⟩, ⟨fun _ => fun _ => ?_, fun h => by simp at h⟩⟩
  have hlen : 0 < ls.length := by omega
  have hal : m.alike m2 := by
    obtain ⟨ad, hc0⟩ := hck 0 hlen
    rw [getD_of hc0] at q1 q2 q3
    refine ⟨(q1.trans ck_out).symm, (q2.trans ck_free).symm, (q3.trans ck_ppid).symm, ?_⟩
    rw [q4, hxl, splits_bytes, pieces_take, List.take_of_length_le (by rw [hm.len]; exact g1)]
  refine Go.callT rfl rfl rfl rfl rfl rfl fun w5 hs => ?_
  have hm2 : m2.Ok w5 := msg_ok_own (F := satH w _ _ * (own 39 12 bx ls.length cx (ls.flatMap Chk.cells) * stars (ls.map Chk.own))) (hs.eq (by simp only [mul_one]; ac_rfl))
  have hsm := sameM_spec m m2 w5 (hm.toOk.sat hs) hm2 hal
  refine hsm.mono fun e w6 he => ⟨.bool true, 1, he.1, rfl, he.2, ?_⟩
  refine Go.run mixed 300 [] rfl ?_
  refine Ok.eq (r' := Res.ite (false || (↑(List.length ls) : Int) == (0 : Int)) (Res.leave Leave.ret { stk := [It.code [1, 1, 1, 1, 1, 1, 0, 1, 0, 1], It.code [1, 1, 1, 1, 1, 1, 1]], fr := [(10, LV.cst (Value.bool false)), (15, LV.bool true), (14, LV.ptr 1 0), (13, LV.int IntKind.i64 er), (12, LV.raw (Value.slice bx (List.length ls) cx)), (11, LV.bool true), (5, LV.ptr 0 0), (0, LV.agg [LV.int IntKind.u16 (Msg.stream m), LV.bool (Msg.unord m), LV.int IntKind.u32 (Msg.ppid m), LV.raw (Value.slice (Msg.db m) (Msg.dn m) (Msg.dc m))]), (1, LV.int IntKind.u32 tsn), (2, LV.int IntKind.u16 ssn), (3, LV.int IntKind.i64 most), (4, LV.int IntKind.i64 at_)], H := [(1, LO.lay [LV.int IntKind.u16 (Msg.stream m2), LV.bool (Msg.unord m2), LV.int IntKind.u32 (Msg.ppid m2), LV.raw (Value.slice (Msg.db m2) (Msg.dn m2) (Msg.dc m2))] 26), (0, LO.lay [LV.int IntKind.u16 (Msg.stream m), LV.bool (Msg.unord m), LV.int IntKind.u32 (Msg.ppid m), LV.raw (Value.slice (Msg.db m) (Msg.dn m) (Msg.dc m))] 26)], nx := 2, orc := [] }) (Res.need [fun x ↦ (0 : Int) ≤ (1 : Int) ∧ (1 : Int) ≤ (↑(List.length ls) : Int)] (Res.stop { stk := [It.reg [1, 1, 1, 1, 1, 1, 1, 0] [2, 3, 4, 5, 6, 7, 8], It.code [1, 1, 1, 1, 1, 1, 1, 1]], fr := [(70, LV.raw (Value.slice (if cx = 1 then bx else Option.map (fun a ↦ Addr.add a 12) bx) (List.length ls - 1) (cx - 1))), (69, LV.raw (Value.slice bx (List.length ls) cx)), (15, LV.bool true), (14, LV.ptr 1 0), (13, LV.int IntKind.i64 er), (12, LV.raw (Value.slice bx (List.length ls) cx)), (11, LV.bool true), (10, LV.cst (Value.bool false)), (5, LV.ptr 0 0), (0, LV.agg [LV.int IntKind.u16 (Msg.stream m), LV.bool (Msg.unord m), LV.int IntKind.u32 (Msg.ppid m), LV.raw (Value.slice (Msg.db m) (Msg.dn m) (Msg.dc m))]), (1, LV.int IntKind.u32 tsn), (2, LV.int IntKind.u16 ssn), (3, LV.int IntKind.i64 most), (4, LV.int IntKind.i64 at_)], H := [(1, LO.lay [LV.int IntKind.u16 (Msg.stream m2), LV.bool (Msg.unord m2), LV.int IntKind.u32 (Msg.ppid m2), LV.raw (Value.slice (Msg.db m2) (Msg.dn m2) (Msg.dc m2))] 26), (0, LO.lay [LV.int IntKind.u16 (Msg.stream m), LV.bool (Msg.unord m), LV.int IntKind.u32 (Msg.ppid m), LV.raw (Value.slice (Msg.db m) (Msg.dn m) (Msg.dc m))] 26)], nx := 2, orc := [] }))) (by kernel_rfl) ?_
  refine ⟨fun h => by simp at h; rw [h] at hlen; simp at hlen, fun _ => ?_⟩
  obtain ⟨G, hG⟩ : ∃ G, G = own 39 12 bx ls.length cx (ls.flatMap Chk.cells) * stars (ls.map Chk.own) := ⟨_, rfl⟩
  refine ⟨⟨by omega, trivial⟩, fun _ => Go.reF (G := m2.own * G) (by rw [hG]; simp only [mul_one, one_mul]) (Go.drop ?_)⟩
  refine Go.callT rfl rfl rfl rfl rfl rfl fun w5 hs => ?_
  have h1 : Sat w (own 39 12 bx ls.length cx (ls.flatMap Chk.cells) * (stars (ls.map Chk.own) * 1)) w5 := hs.right.eq (by rw [hG, mul_one])
  have hcap := own_cap h1
  have hok := oks_of_stars (ls := ls) hx1 h1.right
  have hwh := whole_spec (if cx = 1 then bx else bx.map fun a => a.add 12) (ls.length - 1) (cx - 1) (ls.drop 1) w5 (by simp) (by omega) (rd_tail (Rd.of_own h1) hcap) (fun c hc => hok c (List.mem_of_mem_drop hc))
  have hno : wholeOk (ls.drop 1) = false := by
    by_cases h : ls.length = 1
    · rw [List.drop_of_length_le (by omega)]; rfl
    · obtain ⟨ad, hc1⟩ := hck 1 (by omega)
      refine whole_no_begin ?_
      rw [getD_of (l := ls.drop 1) (k := 0) (x := ck m tsn ssn n 1 ls.length ad) (by rw [List.getElem?_drop]; exact hc1)]
      have := ck_begin (m := m) (tsn := tsn) (ssn := ssn) (n := n) (k := 1) (K := ls.length) (ad := ad)
      simpa using this
  refine hwh.mono fun e w6 he => ?_
  obtain ⟨m3, he1, he2, _, _⟩ := he
  rw [hno] at he1
  refine ⟨.tup [m3.lv, .bool false], _, he1, rfl, he2, ?_⟩
  refine Go.drop ?_
  have hw1 : IntKind.i64.wrap ((ls.length : Int) - 1) = ((ls.length - 1 : Nat) : Int) := by rw [IntWalk.i64_in _ (by omega)]; omega
  refine Go.run mixed 300 [] rfl ?_
  refine Ok.eq (r' := Res.new (Res.need [fun x ↦ Value.one (Value.slice (Msg.db m3) (Msg.dn m3) (Msg.dc m3)) = true] (Res.need [fun x ↦ (0 : Int) ≤ IntKind.wrap IntKind.i64 ((↑(List.length ls) : Int) - (1 : Int)) ∧ IntKind.wrap IntKind.i64 ((↑(List.length ls) : Int) - (1 : Int)) ≤ (↑cx : Int)] (Res.stop { stk := [It.reg [1, 1, 1, 1, 1, 1, 1, 1, 0] [5, 6, 7, 8, 9, 10, 11], It.code [1, 1, 1, 1, 1, 1, 1, 1, 1]], fr := [(79, LV.raw (Value.slice bx (Int.toNat (IntKind.wrap IntKind.i64 ((↑(List.length ls) : Int) - (1 : Int))) - 0) (cx - 0))), (78, LV.int IntKind.i64 (IntKind.wrap IntKind.i64 ((↑(List.length ls) : Int) - (1 : Int)))), (77, LV.int IntKind.i64 (↑(List.length ls) : Int)), (76, LV.raw (Value.slice bx (List.length ls) cx)), (75, LV.raw (Value.slice bx (List.length ls) cx)), (17, LV.bool false), (15, LV.bool true), (14, LV.ptr 1 0), (13, LV.int IntKind.i64 er), (12, LV.raw (Value.slice bx (List.length ls) cx)), (11, LV.bool true), (10, LV.cst (Value.bool false)), (5, LV.ptr 0 0), (0, LV.agg [LV.int IntKind.u16 (Msg.stream m), LV.bool (Msg.unord m), LV.int IntKind.u32 (Msg.ppid m), LV.raw (Value.slice (Msg.db m) (Msg.dn m) (Msg.dc m))]), (1, LV.int IntKind.u32 tsn), (2, LV.int IntKind.u16 ssn), (3, LV.int IntKind.i64 most), (4, LV.int IntKind.i64 at_)], H := [(2, LO.lay [LV.int IntKind.u16 (Msg.stream m3), LV.bool (Msg.unord m3), LV.int IntKind.u32 (Msg.ppid m3), LV.raw (Value.slice (Msg.db m3) (Msg.dn m3) (Msg.dc m3))] 26), (1, LO.lay [LV.int IntKind.u16 (Msg.stream m2), LV.bool (Msg.unord m2), LV.int IntKind.u32 (Msg.ppid m2), LV.raw (Value.slice (Msg.db m2) (Msg.dn m2) (Msg.dc m2))] 26), (0, LO.lay [LV.int IntKind.u16 (Msg.stream m), LV.bool (Msg.unord m), LV.int IntKind.u32 (Msg.ppid m), LV.raw (Value.slice (Msg.db m) (Msg.dn m) (Msg.dc m))] 26)], nx := 3, orc := [] })))) (by kernel_rfl) ?_
  rw [hw1, show (((ls.length - 1 : Nat) : Int)).toNat = ls.length - 1 by omega, Nat.sub_zero, Nat.sub_zero]
  refine fun b3 => ⟨⟨rfl, trivial⟩, ⟨by omega, trivial⟩, fun _ => ?_⟩
  refine Go.callT rfl rfl rfl rfl rfl rfl fun w5 hs => ?_
  have h1 : Sat w (own 39 12 bx ls.length cx (ls.flatMap Chk.cells) * (stars (ls.map Chk.own) * 1)) w5 := hs.right.eq (by rw [hG, mul_one])
  have hok := oks_of_stars (ls := ls) hx1 h1.right
  have hwh := whole_spec bx (ls.length - 1) cx (ls.take (ls.length - 1)) w5 (by simp) (by omega) (rd_init (Rd.of_own h1) _) (fun c hc => hok c (List.mem_of_mem_take hc))
  have hno : wholeOk (ls.take (ls.length - 1)) = false := by
    by_cases h : ls.length = 1
    · rw [h]; rfl
    · obtain ⟨ad, hc1⟩ := hck (ls.length - 2) (by omega)
      refine whole_no_end ?_
      rw [getD_of (l := ls.take (ls.length - 1)) (k := (ls.take (ls.length - 1)).length - 1) (x := ck m tsn ssn n (ls.length - 2) ls.length ad) (by
        rw [List.length_take, show min (ls.length - 1) ls.length - 1 = ls.length - 2 by omega, List.getElem?_take, if_pos (by omega)]; exact hc1)]
      have := ck_end (m := m) (tsn := tsn) (ssn := ssn) (n := n) (k := ls.length - 2) (K := ls.length) (ad := ad)
      rw [decide_eq_false (by omega)] at this
      simpa using this
  refine hwh.mono fun e w6 he => ?_
  obtain ⟨m4, he1, he2, _, _⟩ := he
  rw [hno] at he1
  refine ⟨.tup [m4.lv, .bool false], _, he1, rfl, he2, ?_⟩
  refine Go.drop ?_
  refine Go.run mixed 300 [] rfl ?_
  refine Ok.eq (r' := Res.new (Res.need [fun x ↦ Value.one (Value.slice (Msg.db m4) (Msg.dn m4) (Msg.dc m4)) = true] (Res.ite (decide ((↑(List.length ls) : Int) < (2 : Int))) (Res.leave Leave.ret { stk := [It.code [1, 1, 1, 1, 1, 1, 1, 1, 1, 0, 1, 0, 1], It.code [1, 1, 1, 1, 1, 1, 1, 1, 1, 1]], fr := [(10, LV.bool true), (19, LV.bool false), (17, LV.bool false), (15, LV.bool true), (14, LV.ptr 1 0), (13, LV.int IntKind.i64 er), (12, LV.raw (Value.slice bx (List.length ls) cx)), (11, LV.bool true), (5, LV.ptr 0 0), (0, LV.agg [LV.int IntKind.u16 (Msg.stream m), LV.bool (Msg.unord m), LV.int IntKind.u32 (Msg.ppid m), LV.raw (Value.slice (Msg.db m) (Msg.dn m) (Msg.dc m))]), (1, LV.int IntKind.u32 tsn), (2, LV.int IntKind.u16 ssn), (3, LV.int IntKind.i64 most), (4, LV.int IntKind.i64 at_)], H := [(3, LO.lay [LV.int IntKind.u16 (Msg.stream m4), LV.bool (Msg.unord m4), LV.int IntKind.u32 (Msg.ppid m4), LV.raw (Value.slice (Msg.db m4) (Msg.dn m4) (Msg.dc m4))] 26), (2, LO.lay [LV.int IntKind.u16 (Msg.stream m3), LV.bool (Msg.unord m3), LV.int IntKind.u32 (Msg.ppid m3), LV.raw (Value.slice (Msg.db m3) (Msg.dn m3) (Msg.dc m3))] 26), (1, LO.lay [LV.int IntKind.u16 (Msg.stream m2), LV.bool (Msg.unord m2), LV.int IntKind.u32 (Msg.ppid m2), LV.raw (Value.slice (Msg.db m2) (Msg.dn m2) (Msg.dc m2))] 26), (0, LO.lay [LV.int IntKind.u16 (Msg.stream m), LV.bool (Msg.unord m), LV.int IntKind.u32 (Msg.ppid m), LV.raw (Value.slice (Msg.db m) (Msg.dn m) (Msg.dc m))] 26)], nx := 4, orc := [] }) (Res.need [fun x ↦ IntKind.wrap IntKind.i64 ((↑(List.length ls) : Int) - (1 : Int)) ≠ (0 : Int)] (Res.new (Res.stop { stk := [It.reg [1, 1, 1, 1, 1, 1, 1, 1, 1, 1, 1, 0] [2, 3], It.code [1, 1, 1, 1, 1, 1, 1, 1, 1, 1, 1, 1]], fr := [(102, LV.raw (Value.slice bx (List.length ls) cx)), (101, LV.sl 4 0 0 0), (20, LV.int IntKind.i64 (Int.tmod (ibits BinOp.and IntKind.i64 at_ (65535 : Int)) (IntKind.wrap IntKind.i64 ((↑(List.length ls) : Int) - (1 : Int))))), (19, LV.bool false), (17, LV.bool false), (15, LV.bool true), (14, LV.ptr 1 0), (13, LV.int IntKind.i64 er), (12, LV.raw (Value.slice bx (List.length ls) cx)), (11, LV.bool true), (10, LV.cst (Value.bool false)), (5, LV.ptr 0 0), (0, LV.agg [LV.int IntKind.u16 (Msg.stream m), LV.bool (Msg.unord m), LV.int IntKind.u32 (Msg.ppid m), LV.raw (Value.slice (Msg.db m) (Msg.dn m) (Msg.dc m))]), (1, LV.int IntKind.u32 tsn), (2, LV.int IntKind.u16 ssn), (3, LV.int IntKind.i64 most), (4, LV.int IntKind.i64 at_)], H := [(4, LO.lay [] 39), (3, LO.lay [LV.int IntKind.u16 (Msg.stream m4), LV.bool (Msg.unord m4), LV.int IntKind.u32 (Msg.ppid m4), LV.raw (Value.slice (Msg.db m4) (Msg.dn m4) (Msg.dc m4))] 26), (2, LO.lay [LV.int IntKind.u16 (Msg.stream m3), LV.bool (Msg.unord m3), LV.int IntKind.u32 (Msg.ppid m3), LV.raw (Value.slice (Msg.db m3) (Msg.dn m3) (Msg.dc m3))] 26), (1, LO.lay [LV.int IntKind.u16 (Msg.stream m2), LV.bool (Msg.unord m2), LV.int IntKind.u32 (Msg.ppid m2), LV.raw (Value.slice (Msg.db m2) (Msg.dn m2) (Msg.dc m2))] 26), (0, LO.lay [LV.int IntKind.u16 (Msg.stream m), LV.bool (Msg.unord m), LV.int IntKind.u32 (Msg.ppid m), LV.raw (Value.slice (Msg.db m) (Msg.dn m) (Msg.dc m))] 26)], nx := 5, orc := [] })))))) (by kernel_rfl) ?_
  refine fun b4 => ⟨⟨rfl, trivial⟩, fun _ => leave_ok (fun _ => nofun) rfl fun w hs => ⟨rfl, hs.one⟩, fun hge => ?_⟩
  have hK : 2 ≤ ls.length := by simp at hge; omega
  rw [hw1]
  obtain ⟨k, hk, hkm⟩ := mod_small at_ (ls.length - 1) (by omega)
  rw [hkm]
  refine ⟨⟨by omega, trivial⟩, fun b5 => fun _ => ?_⟩
  refine Go.append (base := some ⟨b5, 0, none⟩) (n := 0) (c := 0) (e := 39) (sz := 12) ls.length rfl rfl rfl rfl rfl rfl rfl rfl rfl rfl rfl fun w5 hs => ?_
  refine ⟨[], ls.flatMap Chk.cells, G, [], ?_, ?_, ?_, ?_, fun bz cz => ?_⟩
  · refine own_strip ⟨b5, [], []⟩ ⟨rfl, rfl, Nat.le_refl _, rfl, by simp⟩ (Sat.right (p := (satH w [b1, b2, b3, b4] [(3, .lay [.int .u16 m4.stream, .bool m4.unord, .int .u32 m4.ppid, .raw (.slice m4.db m4.dn m4.dc)] 26), (2, .lay [.int .u16 m3.stream, .bool m3.unord, .int .u32 m3.ppid, .raw (.slice m3.db m3.dn m3.dc)] 26), (1, .lay [.int .u16 m2.stream, .bool m2.unord, .int .u32 m2.ppid, .raw (.slice m2.db m2.dn m2.dc)] 26), (0, .lay [.int .u16 m.stream, .bool m.unord, .int .u32 m.ppid, .raw (.slice m.db m.dn m.dc)] 26)])) (hs.eq ?_))
    simp [satH, atom, denO, bk, mul_one, one_mul, denL, den, star_assoc]
    ac_rfl
  · have h1 : Sat w (own 39 12 bx ls.length cx (ls.flatMap Chk.cells) * stars (ls.map Chk.own)) w5 := hs.right.eq hG
    exact own_src (tx := 28) (e' := 39) rfl h1
  · show (0 + ls.length) * 144 ≤ _
    omega
  · omega
  rw [Nat.zero_add, List.nil_append]
  refine Go.runS mixed 300 [] [16] rfl ?_
  refine Ok.eq (r' := Res.stop { stk := [It.code [1, 1, 1, 1, 1, 1, 1, 1, 1, 1, 1, 1, 0], It.code [1, 1, 1, 1, 1, 1, 1, 1, 1, 1, 1, 1, 1]], fr := [(21, LV.raw (Value.slice bz (List.length ls) cz)), (20, LV.int IntKind.i64 (↑k : Int)), (19, LV.bool false), (17, LV.bool false), (15, LV.bool true), (14, LV.ptr 1 0), (13, LV.int IntKind.i64 er), (12, LV.raw (Value.slice bx (List.length ls) cx)), (11, LV.bool true), (10, LV.cst (Value.bool false)), (5, LV.ptr 0 0), (0, LV.agg [LV.int IntKind.u16 (Msg.stream m), LV.bool (Msg.unord m), LV.int IntKind.u32 (Msg.ppid m), LV.raw (Value.slice (Msg.db m) (Msg.dn m) (Msg.dc m))]), (1, LV.int IntKind.u32 tsn), (2, LV.int IntKind.u16 ssn), (3, LV.int IntKind.i64 most), (4, LV.int IntKind.i64 at_)], H := [], nx := 5, orc := [] }) (by kernel_rfl) ?_
  refine fun _ => Go.reF (G := own 39 12 bx ls.length cx (ls.flatMap Chk.cells) * (own 39 12 bz ls.length cz (ls.flatMap Chk.cells) * stars (ls.map Chk.own))) (by rw [hG]; ac_rfl) ?_
  refine Go.openOwn (by omega) rfl (fun _ => rfl) fun S hS => ⟨[(21, .raw (.slice bz ls.length cz)), (20, .int .i64 k), (19, .bool false), (17, .bool false), (12, .sl 5 S.pre.length ls.length cx), (11, .bool true), (10, .cst (.bool false))], FrEq.of_all ⟨rfl, rfl, rfl, rfl, by show Value.slice _ _ _ = Value.slice _ _ _; rw [hS.1]; rfl, rfl, rfl, trivial⟩, rfl, ?_⟩
  refine Go.openOwn (by omega) rfl (fun _ => rfl) fun S2 hS2 => ⟨[(21, .sl 6 S2.pre.length ls.length cz), (20, .int .i64 k), (19, .bool false), (17, .bool false), (12, .sl 5 S.pre.length ls.length cx), (11, .bool true), (10, .cst (.bool false))], FrEq.of_all ⟨by show Value.slice _ _ _ = Value.slice _ _ _; rw [hS2.1]; rfl, rfl, rfl, rfl, rfl, rfl, rfl, trivial⟩, rfl, ?_⟩
  obtain ⟨c0, hc0⟩ : ∃ c0, ls[k]? = some c0 := ⟨_, List.getElem?_eq_getElem (by omega)⟩
  obtain ⟨c1, hc1⟩ : ∃ c1, ls[k + 1]? = some c1 := ⟨_, List.getElem?_eq_getElem (by omega)⟩
  have o0 := (hx1 c0 (List.mem_of_getElem? hc0)).1
  have o1 := (hx1 c1 (List.mem_of_getElem? hc1)).1
  have hwk : IntKind.i64.wrap ((k : Int) + 1) = ((k + 1 : Nat) : Int) := by rw [IntWalk.i64_in _ (by omega)]; omega
  obtain ⟨x1, hx1'⟩ : ∃ x1, x1 = ls.set k c1 := ⟨_, rfl⟩
  have p1 := chk_put (ls := ls) (k := k) (by omega) S2.pre S2.spare c1
  rw [← hx1'] at p1
  have hxl1 : x1.length = ls.length := by rw [hx1', List.length_set]
  obtain ⟨x2, hx2'⟩ : ∃ x2, x2 = x1.set (k + 1) c0 := ⟨_, rfl⟩
  have p2 := chk_put (ls := x1) (k := k + 1) (by omega) S2.pre S2.spare c0
  rw [← hx2'] at p2
  have hxl2 : x2.length = ls.length := by rw [hx2', List.length_set, hxl1]
  have d1 : denL [] [.int .u8 c1.kind, .int .u8 c1.flags, .int .u32 c1.a, .int .u32 c1.b, .int .u16 c1.out, .int .u16 c1.inn, .int .u32 c1.ppid, .raw c1.r7, .raw c1.r8, .raw c1.r9, .raw c1.r10, .raw (.slice c1.db c1.dn c1.dc)] = c1.cells := rfl
  have d0 : denL [] [.int .u8 c0.kind, .int .u8 c0.flags, .int .u32 c0.a, .int .u32 c0.b, .int .u16 c0.out, .int .u16 c0.inn, .int .u32 c0.ppid, .raw c0.r7, .raw c0.r8, .raw c0.r9, .raw c0.r10, .raw (.slice c0.db c0.dn c0.dc)] = c0.cells := rfl
  have tk : ((k : Nat) : Int).toNat = k := by omega
  have tk1 : ((k + 1 : Nat) : Int).toNat = k + 1 := by omega
  obtain ⟨y1, y2, y3, y4⟩ := o1
  obtain ⟨z1, z2, z3, z4⟩ := o0
  have rm1 := chk_room' (ls := ls) (k := k) (by omega) S2.pre S2.spare
  have rm2 := chk_room' (ls := x1) (k := k + 1) (by omega) S2.pre S2.spare
  refine Go.runS mixed 300 [.agg c1.lvL] [17] rfl ?_
  refine Ok.eq (r' := Res.need [fun x ↦ (0 : Int) ≤ IntKind.wrap IntKind.i64 ((↑k : Int) + (1 : Int)) ∧ IntKind.wrap IntKind.i64 ((↑k : Int) + (1 : Int)) < (↑(List.length ls) : Int)] (Res.need [fun β ↦ E.rowAt β ((fun x j ↦ (Strip.pre S ++ List.flatMap Chk.cells ls ++ Strip.spare S)[j]?) β) (List.length (Strip.pre S) + Int.toNat (IntKind.wrap IntKind.i64 ((↑k : Int) + (1 : Int))) * 12) (Chk.lvL c1)] (Res.need [fun x ↦ (0 : Int) ≤ (↑k : Int) ∧ (↑k : Int) < (↑(List.length ls) : Int)] (Res.need [fun x ↦ Value.one (Chk.r7 c1) = true, fun x ↦ Value.one (Chk.r8 c1) = true, fun x ↦ Value.one (Chk.r9 c1) = true, fun x ↦ Value.one (Chk.r10 c1) = true, fun x ↦ Value.one (Value.slice (Chk.db c1) (Chk.dn c1) (Chk.dc c1)) = true, fun x ↦ List.length (Strip.pre S2) + Int.toNat (↑k : Int) * 12 + 12 ≤ List.length (Strip.pre S2 ++ List.flatMap Chk.cells ls ++ Strip.spare S2)] (Res.stop { stk := [It.code [1, 1, 1, 1, 1, 1, 1, 1, 1, 1, 1, 1, 1, 0], It.code [1, 1, 1, 1, 1, 1, 1, 1, 1, 1, 1, 1, 1, 1]], fr := [(21, LV.sl 6 (List.length (Strip.pre S2)) (List.length ls) cz), (20, LV.int IntKind.i64 (↑k : Int)), (19, LV.bool false), (17, LV.bool false), (12, LV.sl 5 (List.length (Strip.pre S)) (List.length ls) cx), (11, LV.bool true), (10, LV.cst (Value.bool false))], H := [(6, LO.arr (setL (Strip.pre S2 ++ List.flatMap Chk.cells ls ++ Strip.spare S2) (List.length (Strip.pre S2) + Int.toNat (↑k : Int) * 12) (denL [] [LV.int IntKind.u8 (Chk.kind c1), LV.int IntKind.u8 (Chk.flags c1), LV.int IntKind.u32 (Chk.a c1), LV.int IntKind.u32 (Chk.b c1), LV.int IntKind.u16 (Chk.out c1), LV.int IntKind.u16 (Chk.inn c1), LV.int IntKind.u32 (Chk.ppid c1), LV.raw (Chk.r7 c1), LV.raw (Chk.r8 c1), LV.raw (Chk.r9 c1), LV.raw (Chk.r10 c1), LV.raw (Value.slice (Chk.db c1) (Chk.dn c1) (Chk.dc c1))])) 39), (5, LO.arr (Strip.pre S ++ List.flatMap Chk.cells ls ++ Strip.spare S) 39)], nx := 7, orc := [] }))))) (by kernel_rfl) ?_
  rw [hwk, tk1, tk, d1, p1]
  refine ⟨⟨by omega, trivial⟩, ⟨arr_row hc1 S.pre S.spare rfl _, trivial⟩, ⟨by omega, trivial⟩, ⟨y1, y2, y3, y4, rfl, by omega, trivial⟩, fun _ => ?_⟩
  refine Go.runS mixed 300 [.agg c0.lvL] [18] rfl ?_
  refine Ok.eq (r' := Res.need [fun x ↦ (0 : Int) ≤ (↑k : Int) ∧ (↑k : Int) < (↑(List.length ls) : Int)] (Res.need [fun β ↦ E.rowAt β ((fun x j ↦ (Strip.pre S ++ List.flatMap Chk.cells ls ++ Strip.spare S)[j]?) β) (List.length (Strip.pre S) + Int.toNat (↑k : Int) * 12) (Chk.lvL c0)] (Res.need [fun x ↦ (0 : Int) ≤ IntKind.wrap IntKind.i64 ((↑k : Int) + (1 : Int)) ∧ IntKind.wrap IntKind.i64 ((↑k : Int) + (1 : Int)) < (↑(List.length ls) : Int)] (Res.need [fun x ↦ Value.one (Chk.r7 c0) = true, fun x ↦ Value.one (Chk.r8 c0) = true, fun x ↦ Value.one (Chk.r9 c0) = true, fun x ↦ Value.one (Chk.r10 c0) = true, fun x ↦ Value.one (Value.slice (Chk.db c0) (Chk.dn c0) (Chk.dc c0)) = true, fun x ↦ List.length (Strip.pre S2) + Int.toNat (IntKind.wrap IntKind.i64 ((↑k : Int) + (1 : Int))) * 12 + 12 ≤ List.length (Strip.pre S2 ++ List.flatMap Chk.cells x1 ++ Strip.spare S2)] (Res.stop { stk := [It.code [1, 1, 1, 1, 1, 1, 1, 1, 1, 1, 1, 1, 1, 1, 0], It.code [1, 1, 1, 1, 1, 1, 1, 1, 1, 1, 1, 1, 1, 1, 1]], fr := [(21, LV.sl 6 (List.length (Strip.pre S2)) (List.length ls) cz), (20, LV.int IntKind.i64 (↑k : Int)), (19, LV.bool false), (17, LV.bool false), (12, LV.sl 5 (List.length (Strip.pre S)) (List.length ls) cx), (11, LV.bool true), (10, LV.cst (Value.bool false))], H := [(6, LO.arr (setL (Strip.pre S2 ++ List.flatMap Chk.cells x1 ++ Strip.spare S2) (List.length (Strip.pre S2) + Int.toNat (IntKind.wrap IntKind.i64 ((↑k : Int) + (1 : Int))) * 12) (denL [] [LV.int IntKind.u8 (Chk.kind c0), LV.int IntKind.u8 (Chk.flags c0), LV.int IntKind.u32 (Chk.a c0), LV.int IntKind.u32 (Chk.b c0), LV.int IntKind.u16 (Chk.out c0), LV.int IntKind.u16 (Chk.inn c0), LV.int IntKind.u32 (Chk.ppid c0), LV.raw (Chk.r7 c0), LV.raw (Chk.r8 c0), LV.raw (Chk.r9 c0), LV.raw (Chk.r10 c0), LV.raw (Value.slice (Chk.db c0) (Chk.dn c0) (Chk.dc c0))])) 39), (5, LO.arr (Strip.pre S ++ List.flatMap Chk.cells ls ++ Strip.spare S) 39)], nx := 7, orc := [] }))))) (by kernel_rfl) ?_
  rw [hwk, tk1, tk, d0, p2]
  refine ⟨⟨by omega, trivial⟩, ⟨arr_row hc0 S.pre S.spare rfl _, trivial⟩, ⟨by omega, trivial⟩, ⟨z1, z2, z3, z4, rfl, by omega, trivial⟩, fun _ => ?_⟩
  refine Go.run mixed 300 [] rfl ?_
  refine Ok.eq (r' := Res.stop { stk := [It.reg [1, 1, 1, 1, 1, 1, 1, 1, 1, 1, 1, 1, 1, 1, 0] [1, 2, 3, 4, 5, 6, 7], It.code [1, 1, 1, 1, 1, 1, 1, 1, 1, 1, 1, 1, 1, 1, 1]], fr := [(121, LV.sl 6 (List.length (Strip.pre S2)) (List.length ls) cz), (21, LV.sl 6 (List.length (Strip.pre S2)) (List.length ls) cz), (20, LV.int IntKind.i64 (↑k : Int)), (19, LV.bool false), (17, LV.bool false), (12, LV.sl 5 (List.length (Strip.pre S)) (List.length ls) cx), (11, LV.bool true), (10, LV.cst (Value.bool false))], H := [(6, LO.arr (Strip.pre S2 ++ List.flatMap Chk.cells x2 ++ Strip.spare S2) 39), (5, LO.arr (Strip.pre S ++ List.flatMap Chk.cells ls ++ Strip.spare S) 39)], nx := 7, orc := [] }) (by kernel_rfl) ?_
  refine fun _ => Go.callT rfl rfl rfl rfl rfl rfl fun w5 hs => ?_
  have hb6 : w5.heap[S2.b]? = some (.cells (S2.pre ++ x2.flatMap Chk.cells ++ S2.spare).toArray 39) := arr_heap (id := 6) rfl hs
  have hrd6 : Rd w5 (some ⟨S2.b, S2.pre.length, none⟩) (x2.flatMap Chk.cells) := .inr ⟨_, rfl, (Array.getElem?_eq_some_iff.1 hb6).1, fun j u hj => by
    rw [Addr.add_lit, cell_of_heap hb6]
    have := (At.mid (a := S2.pre) (m := x2.flatMap Chk.cells) (b := S2.spare)).get hj
    simpa using this⟩
  have hok := oks_of_stars (ls := ls) (F := satH w _ _) hx1 (hs.eq (star_comm _ _))
  have hok2 : ∀ c ∈ x2, c.Ok w5 := fun c hc => by
    rw [hx2'] at hc
    rcases List.mem_or_eq_of_mem_set hc with hc | rfl
    · rw [hx1'] at hc
      rcases List.mem_or_eq_of_mem_set hc with hc | rfl
      · exact hok c hc
      · exact hok _ (List.mem_of_getElem? hc1)
    · exact hok _ (List.mem_of_getElem? hc0)
  have hwh := whole_spec (some ⟨S2.b, S2.pre.length, none⟩) ls.length cz x2 w5 hxl2 (by omega) hrd6 hok2
  have hno : wholeOk x2 = false := by
    obtain ⟨a0, k0⟩ := hck k (by omega)
    obtain ⟨a1, k1⟩ := hck (k + 1) (by omega)
    rw [hc0] at k0
    rw [hc1] at k1
    cases k0; cases k1
    have gk : x2[k]? = some (ck m tsn ssn n (k + 1) ls.length a1) := by rw [hx2', List.getElem?_set_ne (by omega), hx1', List.getElem?_set_self (by omega)]
    have gk1 : x2[k + 1]? = some (ck m tsn ssn n k ls.length a0) := by rw [hx2', List.getElem?_set_self (by omega)]
    by_cases h0 : k = 0
    · subst h0
      refine whole_no_begin ?_
      rw [getD_of gk]
      have := ck_begin (m := m) (tsn := tsn) (ssn := ssn) (n := n) (k := 0 + 1) (K := ls.length) (ad := a1)
      simpa using this
    · by_cases h1 : k + 2 = ls.length
      · refine whole_no_end ?_
        rw [hxl2, show ls.length - 1 = k + 1 by omega, getD_of gk1]
        have := ck_end (m := m) (tsn := tsn) (ssn := ssn) (n := n) (k := k) (K := ls.length) (ad := a0)
        rw [decide_eq_false (by omega)] at this
        simpa using this
      · obtain ⟨ap, kp⟩ := hck (k - 1) (by omega)
        refine whole_gap (i := k) (by omega) (by omega) ?_
        have gp : x2[k - 1]? = some (ck m tsn ssn n (k - 1) ls.length ap) := by rw [hx2', List.getElem?_set_ne (by omega), hx1', List.getElem?_set_ne (by omega)]; exact kp
        rw [getD_of gp, getD_of gk, ck_follows, decide_eq_false (by have := tsn_skip tsn (k - 1); rwa [show k - 1 + 2 = k + 1 by omega] at this)]
        rfl
  refine hwh.mono fun e w6 he => ?_
  obtain ⟨m5, he1, he2, _, _⟩ := he
  rw [hno] at he1
  refine ⟨.tup [m5.lv, .bool false], _, he1, rfl, he2, ?_⟩
  refine Go.run mixed 300 [] rfl ?_
  refine Ok.eq (r' := Res.new (Res.need [fun x ↦ Value.one (Value.slice (Msg.db m5) (Msg.dn m5) (Msg.dc m5)) = true] (Res.leave Leave.ret { stk := [It.code [1, 1, 1, 1, 1, 1, 1, 1, 1, 1, 1, 1, 1, 1, 1, 1]], fr := [(10, LV.bool true), (23, LV.bool false), (21, LV.sl 6 (List.length (Strip.pre S2)) (List.length ls) cz), (20, LV.int IntKind.i64 (↑k : Int)), (19, LV.bool false), (17, LV.bool false), (12, LV.sl 5 (List.length (Strip.pre S)) (List.length ls) cx), (11, LV.bool true)], H := [(7, LO.lay [LV.int IntKind.u16 (Msg.stream m5), LV.bool (Msg.unord m5), LV.int IntKind.u32 (Msg.ppid m5), LV.raw (Value.slice (Msg.db m5) (Msg.dn m5) (Msg.dc m5))] 26), (6, LO.arr (Strip.pre S2 ++ List.flatMap Chk.cells x2 ++ Strip.spare S2) 39), (5, LO.arr (Strip.pre S ++ List.flatMap Chk.cells ls ++ Strip.spare S) 39)], nx := 8, orc := [] }))) (by kernel_rfl) ?_
  exact fun b8 => ⟨⟨rfl, trivial⟩, leave_ok (fun _ => nofun) rfl fun w hs => ⟨rfl, hs.one⟩⟩

end Go.Proofs.Ytlgggljlegpaoaa
