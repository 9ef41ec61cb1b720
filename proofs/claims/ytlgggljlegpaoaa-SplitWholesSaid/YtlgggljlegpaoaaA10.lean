/- Layer 13: SplitJoins, walked. -/
import Derived.Test.YtlgggljlegpaoaaA9
namespace Go.Proofs.Ytlgggljlegpaoaa
open Go Go.E Go.Proofs

/-- What a split gives, told in one way. -/
def SplitU (m : Msg) (tsn ssn : Int) (w : World) (e : Ending) (w' : World) : Prop :=
  ∃ (ls : List Chk) (base : Option Addr) (c : Nat) (er : Int), e = .returned (.tuple #[.slice base ls.length c, .int .i64 er]) ∧ Sat w (own 39 12 base ls.length c (ls.flatMap Chk.cells) * stars (ls.map Chk.own)) w' ∧ (∀ c ∈ ls, c.ones ∧ c.dn ≤ 2000) ∧
    ((er = 1 ∧ ls = []) ∨ (er = 0 ∧ ∃ (n : Nat) (ads : List (Option Addr × Nat)), 1 ≤ n ∧ n ≤ 1172 ∧ 0 < ads.length ∧ m.dn ≤ ads.length * n ∧ (ads.length - 1) * n < m.dn ∧ ls = splits m tsn ssn n ads))

theorem SplitR.u {m : Msg} {tsn ssn most : Int} {w w' : World} {e : Ending} (hm : m.dn ≤ 2000) (h : SplitR m tsn ssn most w e w') : SplitU m tsn ssn w e w' := by
  unfold SplitR at h
  split at h
  · exact ⟨[], none, 0, 1, h.1, own_nil ((h.2.eq (mul_one 1).symm).eq (by simp [stars, mul_one])), by simp, .inl ⟨rfl, rfl⟩⟩
  · rename_i h1
    rw [if_neg (by omega)] at h
    obtain ⟨ads, base, c, g1, g2, g3, g4, g5⟩ := h
    obtain ⟨n, rfl⟩ : ∃ n : Nat, most = (n : Int) := ⟨most.toNat, by omega⟩
    rw [show (n : Int).toNat = n by omega] at g2 g3 g5
    have hl := splits_length m tsn ssn n ads
    refine ⟨splits m tsn ssn n ads, base, c, 0, by rw [hl]; exact g4, by rw [hl]; exact g5, fun c hc => ?_, .inr ⟨rfl, n, ads, by omega, by omega, g1, g2, g3, rfl⟩⟩
    obtain ⟨k, hk⟩ := List.mem_iff_getElem?.1 hc
    have hlt : k < ads.length := by have := (List.getElem?_eq_some_iff.1 hk).1; rwa [hl] at this
    obtain ⟨ad, h2⟩ := splits_get (m := m) (tsn := tsn) (ssn := ssn) (n := n) hlt
    rw [h2] at hk
    cases hk
    obtain ⟨p1, p2, p3⟩ := pc_ones m tsn (fl0 m) (in0 m ssn) n k ad ads.length
    exact ⟨p2, by rw [p3]; have := piece_le m n k; omega⟩

theorem splitU_spec (m : Msg) (tsn ssn most : Int) (w : World) (hm : m.Ok w) (hcap : m.dn ≤ m.dc) (h2 : m.dn ≤ 2000) : Calls Try.prog 8 #[m.val, .int .u32 tsn, .int .u16 ssn, .int .i64 most] w (SplitU m tsn ssn w) :=
  (split_spec m tsn ssn most w hm.rd hm.len hm.nil hcap).mono fun _ _ h => h.u h2

theorem own_src {P : Program} {w0 w : World} {e tx e' : TypeId} {sz n c : Nat} {base : Option Addr} {l : List Value} {F : HP} (hk : P.underlying tx = some (.slice e')) (h : Sat w0 (own e sz base n c l * F) w) : Src P sz tx (.slice base n c) n l w := by
  have hl := own_len h
  refine (Rd.of_own h).src hk hl.1 hl.2 fun hb => ?_
  rcases own_cases h with ⟨_, h0, _⟩ | ⟨S, ⟨hb', _⟩, _⟩
  · exact h0
  · rw [hb'] at hb; cases hb

set_option maxHeartbeats 1000000 in
set_option maxRecDepth 100000 in
theorem joins_walk (a b : Msg) (tsn most : Int) (w : World) (ha : a.In w) (hb : b.In w) : Calls Try.prog 6 #[a.val, b.val, .int .u32 tsn, .int .i64 most] w fun e w' => e = .returned (.bool true) ∧ Sat w 1 w' := by
  refine Calls.enter (cfg := cfg6 w) (β := []) (H := []) (F := 1) (l := [a.lv, b.lv, .int .u32 tsn, .int .i64 most]) Try.func6 rfl rfl (Nat.le_of_ble_eq_true rfl) rfl ((Sat.refl w).eq (one_mul 1).symm) ?_
  refine Go.run mixed 300 [] rfl ?_
  refine Ok.eq (r' := Res.need [fun x ↦ Value.one (Value.slice (Msg.db a) (Msg.dn a) (Msg.dc a)) = true] (Res.new (Res.need [fun x ↦ Value.one (Value.slice (Msg.db b) (Msg.dn b) (Msg.dc b)) = true] (Res.new (Res.stop { stk := [It.reg [1, 0] [0, 1], It.code [1, 1]], fr := [(8, LV.cst (Value.bool false)), (5, LV.ptr 1 0), (4, LV.ptr 0 0), (0, LV.agg [LV.int IntKind.u16 (Msg.stream a), LV.bool (Msg.unord a), LV.int IntKind.u32 (Msg.ppid a), LV.raw (Value.slice (Msg.db a) (Msg.dn a) (Msg.dc a))]), (1, LV.agg [LV.int IntKind.u16 (Msg.stream b), LV.bool (Msg.unord b), LV.int IntKind.u32 (Msg.ppid b), LV.raw (Value.slice (Msg.db b) (Msg.dn b) (Msg.dc b))]), (2, LV.int IntKind.u32 tsn), (3, LV.int IntKind.i64 most)], H := [(1, LO.lay [LV.int IntKind.u16 (Msg.stream b), LV.bool (Msg.unord b), LV.int IntKind.u32 (Msg.ppid b), LV.raw (Value.slice (Msg.db b) (Msg.dn b) (Msg.dc b))] 26), (0, LO.lay [LV.int IntKind.u16 (Msg.stream a), LV.bool (Msg.unord a), LV.int IntKind.u32 (Msg.ppid a), LV.raw (Value.slice (Msg.db a) (Msg.dn a) (Msg.dc a))] 26)], nx := 2, orc := [] }))))) (by kernel_rfl) ?_
  refine ⟨⟨rfl, trivial⟩, fun b1 => ⟨⟨rfl, trivial⟩, fun b2 => fun _ => Go.callT rfl rfl rfl rfl rfl rfl fun w1 hs => (awake_spec w1).mono fun e w2 he => ⟨.bool true, 1, he.1, rfl, he.2, ?_⟩⟩⟩
  refine Go.run mixed 300 [] rfl ?_
  refine Ok.eq (r' := Res.ite (decide ((↑(Msg.dn a) : Int) > (2000 : Int)) || decide ((↑(Msg.dn b) : Int) > (2000 : Int))) (Res.leave Leave.ret { stk := [It.code [1, 1, 0, 1, 0, 1], It.code [1, 1, 1]], fr := [(8, LV.bool true), (9, LV.bool true), (5, LV.ptr 1 0), (4, LV.ptr 0 0), (0, LV.agg [LV.int IntKind.u16 (Msg.stream a), LV.bool (Msg.unord a), LV.int IntKind.u32 (Msg.ppid a), LV.raw (Value.slice (Msg.db a) (Msg.dn a) (Msg.dc a))]), (1, LV.agg [LV.int IntKind.u16 (Msg.stream b), LV.bool (Msg.unord b), LV.int IntKind.u32 (Msg.ppid b), LV.raw (Value.slice (Msg.db b) (Msg.dn b) (Msg.dc b))]), (2, LV.int IntKind.u32 tsn), (3, LV.int IntKind.i64 most)], H := [(1, LO.lay [LV.int IntKind.u16 (Msg.stream b), LV.bool (Msg.unord b), LV.int IntKind.u32 (Msg.ppid b), LV.raw (Value.slice (Msg.db b) (Msg.dn b) (Msg.dc b))] 26), (0, LO.lay [LV.int IntKind.u16 (Msg.stream a), LV.bool (Msg.unord a), LV.int IntKind.u32 (Msg.ppid a), LV.raw (Value.slice (Msg.db a) (Msg.dn a) (Msg.dc a))] 26)], nx := 2, orc := [] }) (Res.stop { stk := [It.reg [1, 1, 1, 0] [3, 4, 5, 6, 7, 8], It.code [1, 1, 1, 1]], fr := [(31, LV.int IntKind.i64 most), (30, LV.int IntKind.u32 tsn), (29, LV.agg [LV.int IntKind.u16 (Msg.stream a), LV.bool (Msg.unord a), LV.int IntKind.u32 (Msg.ppid a), LV.raw (Value.slice (Msg.db a) (Msg.dn a) (Msg.dc a))]), (9, LV.bool true), (8, LV.cst (Value.bool false)), (5, LV.ptr 1 0), (4, LV.ptr 0 0), (0, LV.agg [LV.int IntKind.u16 (Msg.stream a), LV.bool (Msg.unord a), LV.int IntKind.u32 (Msg.ppid a), LV.raw (Value.slice (Msg.db a) (Msg.dn a) (Msg.dc a))]), (1, LV.agg [LV.int IntKind.u16 (Msg.stream b), LV.bool (Msg.unord b), LV.int IntKind.u32 (Msg.ppid b), LV.raw (Value.slice (Msg.db b) (Msg.dn b) (Msg.dc b))]), (2, LV.int IntKind.u32 tsn), (3, LV.int IntKind.i64 most)], H := [(1, LO.lay [LV.int IntKind.u16 (Msg.stream b), LV.bool (Msg.unord b), LV.int IntKind.u32 (Msg.ppid b), LV.raw (Value.slice (Msg.db b) (Msg.dn b) (Msg.dc b))] 26), (0, LO.lay [LV.int IntKind.u16 (Msg.stream a), LV.bool (Msg.unord a), LV.int IntKind.u32 (Msg.ppid a), LV.raw (Value.slice (Msg.db a) (Msg.dn a) (Msg.dc a))] 26)], nx := 2, orc := [] })) (by kernel_rfl) ?_
  refine ⟨fun _ => leave_ok (fun _ => nofun) rfl fun w hs => ⟨rfl, hs.one⟩, fun hsm => ?_⟩
  have hda : a.dn ≤ 2000 := by simp at hsm; omega
  have hdb : b.dn ≤ 2000 := by simp at hsm; omega
  refine fun _ => Go.callT rfl rfl rfl rfl rfl rfl fun w1 hs => ?_
  have hsp := splitU_spec a tsn 3 most w1 (ha.toOk.sat hs) ha.cap hda
  refine hsp.mono fun e w2 he => ?_
  obtain ⟨xs, bx, cx, ex, he1, he2, hx1, hx2⟩ := he
  refine ⟨.tup [.raw (.slice bx xs.length cx), .int .i64 ex], _, he1, rfl, he2, ?_⟩
  refine Go.run mixed 300 [] rfl ?_
  refine Ok.eq (r' := Res.stop { stk := [It.reg [1, 1, 1, 1, 0] [7, 8, 9, 10, 11, 12], It.code [1, 1, 1, 1, 1]], fr := [(42, LV.int IntKind.i64 most), (41, LV.int IntKind.u32 (IntKind.wrap IntKind.u32 (tsn + IntKind.wrap IntKind.u32 (↑(List.length xs) : Int)))), (40, LV.int IntKind.u32 (IntKind.wrap IntKind.u32 (↑(List.length xs) : Int))), (39, LV.int IntKind.i64 (↑(List.length xs) : Int)), (38, LV.raw (Value.slice bx (List.length xs) cx)), (37, LV.int IntKind.u32 tsn), (36, LV.agg [LV.int IntKind.u16 (Msg.stream b), LV.bool (Msg.unord b), LV.int IntKind.u32 (Msg.ppid b), LV.raw (Value.slice (Msg.db b) (Msg.dn b) (Msg.dc b))]), (11, LV.int IntKind.i64 ex), (10, LV.raw (Value.slice bx (List.length xs) cx)), (9, LV.bool true), (8, LV.cst (Value.bool false)), (5, LV.ptr 1 0), (4, LV.ptr 0 0), (0, LV.agg [LV.int IntKind.u16 (Msg.stream a), LV.bool (Msg.unord a), LV.int IntKind.u32 (Msg.ppid a), LV.raw (Value.slice (Msg.db a) (Msg.dn a) (Msg.dc a))]), (1, LV.agg [LV.int IntKind.u16 (Msg.stream b), LV.bool (Msg.unord b), LV.int IntKind.u32 (Msg.ppid b), LV.raw (Value.slice (Msg.db b) (Msg.dn b) (Msg.dc b))]), (2, LV.int IntKind.u32 tsn), (3, LV.int IntKind.i64 most)], H := [(1, LO.lay [LV.int IntKind.u16 (Msg.stream b), LV.bool (Msg.unord b), LV.int IntKind.u32 (Msg.ppid b), LV.raw (Value.slice (Msg.db b) (Msg.dn b) (Msg.dc b))] 26), (0, LO.lay [LV.int IntKind.u16 (Msg.stream a), LV.bool (Msg.unord a), LV.int IntKind.u32 (Msg.ppid a), LV.raw (Value.slice (Msg.db a) (Msg.dn a) (Msg.dc a))] 26)], nx := 2, orc := [] }) (by kernel_rfl) ?_
  refine fun _ => Go.callT rfl rfl rfl rfl rfl rfl fun w1 hs => ?_
  have hsp := splitU_spec b (IntKind.u32.wrap (tsn + IntKind.u32.wrap xs.length)) 4 most w1 (hb.toOk.sat hs) hb.cap hdb
  refine hsp.mono fun e w2 he => ?_
  obtain ⟨ys, by_, cy, ey, he1, he2, hy1, hy2⟩ := he
  refine ⟨.tup [.raw (.slice by_ ys.length cy), .int .i64 ey], _, he1, rfl, he2, ?_⟩
  refine Go.run mixed 300 [] rfl ?_
  refine Ok.eq (r' := Res.ite (ex != (0 : Int) || ey != (0 : Int) || (↑(List.length xs) : Int) == (0 : Int) || (↑(List.length ys) : Int) == (0 : Int)) (Res.leave Leave.ret { stk := [It.code [1, 1, 1, 1, 1, 0, 1, 0, 1], It.code [1, 1, 1, 1, 1, 1]], fr := [(8, LV.bool (true && (ex != (0 : Int) || ey != (0 : Int)))), (13, LV.int IntKind.i64 ey), (12, LV.raw (Value.slice by_ (List.length ys) cy)), (11, LV.int IntKind.i64 ex), (10, LV.raw (Value.slice bx (List.length xs) cx)), (9, LV.bool true), (5, LV.ptr 1 0), (4, LV.ptr 0 0), (0, LV.agg [LV.int IntKind.u16 (Msg.stream a), LV.bool (Msg.unord a), LV.int IntKind.u32 (Msg.ppid a), LV.raw (Value.slice (Msg.db a) (Msg.dn a) (Msg.dc a))]), (1, LV.agg [LV.int IntKind.u16 (Msg.stream b), LV.bool (Msg.unord b), LV.int IntKind.u32 (Msg.ppid b), LV.raw (Value.slice (Msg.db b) (Msg.dn b) (Msg.dc b))]), (2, LV.int IntKind.u32 tsn), (3, LV.int IntKind.i64 most)], H := [(1, LO.lay [LV.int IntKind.u16 (Msg.stream b), LV.bool (Msg.unord b), LV.int IntKind.u32 (Msg.ppid b), LV.raw (Value.slice (Msg.db b) (Msg.dn b) (Msg.dc b))] 26), (0, LO.lay [LV.int IntKind.u16 (Msg.stream a), LV.bool (Msg.unord a), LV.int IntKind.u32 (Msg.ppid a), LV.raw (Value.slice (Msg.db a) (Msg.dn a) (Msg.dc a))] 26)], nx := 2, orc := [] }) (Res.new (Res.stop { stk := [It.reg [1, 1, 1, 1, 1, 1, 0] [2, 3, 4, 5, 6, 7, 8, 9, 10, 11], It.code [1, 1, 1, 1, 1, 1, 1]], fr := [(73, LV.raw (Value.slice bx (List.length xs) cx)), (72, LV.sl 2 0 0 0), (13, LV.int IntKind.i64 ey), (12, LV.raw (Value.slice by_ (List.length ys) cy)), (11, LV.int IntKind.i64 ex), (10, LV.raw (Value.slice bx (List.length xs) cx)), (9, LV.bool true), (8, LV.cst (Value.bool false)), (5, LV.ptr 1 0), (4, LV.ptr 0 0), (0, LV.agg [LV.int IntKind.u16 (Msg.stream a), LV.bool (Msg.unord a), LV.int IntKind.u32 (Msg.ppid a), LV.raw (Value.slice (Msg.db a) (Msg.dn a) (Msg.dc a))]), (1, LV.agg [LV.int IntKind.u16 (Msg.stream b), LV.bool (Msg.unord b), LV.int IntKind.u32 (Msg.ppid b), LV.raw (Value.slice (Msg.db b) (Msg.dn b) (Msg.dc b))]), (2, LV.int IntKind.u32 tsn), (3, LV.int IntKind.i64 most)], H := [(2, LO.lay [] 39), (1, LO.lay [LV.int IntKind.u16 (Msg.stream b), LV.bool (Msg.unord b), LV.int IntKind.u32 (Msg.ppid b), LV.raw (Value.slice (Msg.db b) (Msg.dn b) (Msg.dc b))] 26), (0, LO.lay [LV.int IntKind.u16 (Msg.stream a), LV.bool (Msg.unord a), LV.int IntKind.u32 (Msg.ppid a), LV.raw (Value.slice (Msg.db a) (Msg.dn a) (Msg.dc a))] 26)], nx := 3, orc := [] }))) (by kernel_rfl) ?_
  refine ⟨fun hc => leave_ok (fun _ => nofun) rfl fun w hs => ⟨?_, hs.one⟩, fun hc => ?_⟩
  · have : (ex != 0 || ey != 0) = true := by
      rcases hx2 with ⟨h, _⟩ | ⟨h, n, ads, _, _, h0, _, _, hl⟩
      · rw [h]; rfl
      · rcases hy2 with ⟨h', _⟩ | ⟨h', n', ads', _, _, h0', _, _, hl'⟩
        · rw [h']; simp
        · exfalso
          have e1 : xs.length = ads.length := by rw [hl, splits_length]
          have e2 : ys.length = ads'.length := by rw [hl', splits_length]
          simp [h, h'] at hc
          rcases hc with hc | hc
          · rw [hc] at e1; simp at e1; omega
          · rw [hc] at e2; simp at e2; omega
    simp only [den, this]; rfl
  obtain ⟨n, ads, n1, n2, g0, g1, g2, hxl⟩ : ∃ (n : Nat) (ads : List (Option Addr × Nat)), 1 ≤ n ∧ n ≤ 1172 ∧ 0 < ads.length ∧ a.dn ≤ ads.length * n ∧ (ads.length - 1) * n < a.dn ∧ xs = splits a tsn 3 n ads := by
    rcases hx2 with ⟨h, _⟩ | ⟨_, h⟩
    · simp [h] at hc
    · exact h
  obtain ⟨n', ads', n1', n2', g0', g1', g2', hyl⟩ : ∃ (n : Nat) (ads' : List (Option Addr × Nat)), 1 ≤ n ∧ n ≤ 1172 ∧ 0 < ads'.length ∧ b.dn ≤ ads'.length * n ∧ (ads'.length - 1) * n < b.dn ∧ ys = splits b (IntKind.u32.wrap (tsn + IntKind.u32.wrap xs.length)) 4 n ads' := by
    rcases hy2 with ⟨h, _⟩ | ⟨_, h⟩
    · simp [h] at hc
    · exact h
  have ex1 : xs.length = ads.length := by rw [hxl, splits_length]
  have ey1 : ys.length = ads'.length := by rw [hyl, splits_length]
  have bx1 : xs.length ≤ 2000 := by rw [ex1]; have := Nat.le_mul_of_pos_right (ads.length - 1) n1; omega
  have by1 : ys.length ≤ 2000 := by rw [ey1]; have := Nat.le_mul_of_pos_right (ads'.length - 1) n1'; omega
  obtain ⟨G, hG⟩ : ∃ G, G = own 39 12 bx xs.length cx (xs.flatMap Chk.cells) * (stars (xs.map Chk.own) * (own 39 12 by_ ys.length cy (ys.flatMap Chk.cells) * stars (ys.map Chk.own))) := ⟨_, rfl⟩
  refine fun b3 => fun _ => Go.reF (G := G) (by rw [hG]; simp only [mul_one]; ac_rfl) ?_
  refine Go.append (base := some ⟨b3, 0, none⟩) (n := 0) (c := 0) (e := 39) (sz := 12) xs.length rfl rfl rfl rfl rfl rfl rfl rfl rfl rfl rfl fun w3 hs => ?_
  have hs0 : Sat w (own 39 12 bx xs.length cx (xs.flatMap Chk.cells) * (stars (xs.map Chk.own) * (own 39 12 by_ ys.length cy (ys.flatMap Chk.cells) * stars (ys.map Chk.own)))) w3 := by rw [← hG]; exact hs.right
  refine ⟨[], xs.flatMap Chk.cells, G, [(1, .lay [.int .u16 b.stream, .bool b.unord, .int .u32 b.ppid, .raw (.slice b.db b.dn b.dc)] 26), (0, .lay [.int .u16 a.stream, .bool a.unord, .int .u32 a.ppid, .raw (.slice a.db a.dn a.dc)] 26)], ?_, ?_, ?_, ?_, fun bz cz => ?_⟩
  · refine own_strip ⟨b3, [], []⟩ ⟨rfl, rfl, Nat.le_refl _, rfl, by simp⟩ (hs.eq ?_)
    simp [satH, atom, denO, bk, mul_one, denL, den, star_assoc]
  · exact own_src (tx := 28) (e' := 39) rfl hs0
  · show (0 + xs.length) * 144 ≤ _
    omega
  · omega
  rw [Nat.zero_add, List.nil_append]
  refine Go.run mixed 300 [] rfl ?_
  refine Ok.eq (r' := Res.stop { stk := [It.reg [1, 1, 1, 1, 1, 1, 0] [4, 5, 6, 7, 8, 9, 10, 11], It.code [1, 1, 1, 1, 1, 1, 1]], fr := [(75, LV.raw (Value.slice by_ (List.length ys) cy)), (74, LV.raw (Value.slice bz (List.length xs) cz)), (73, LV.raw (Value.slice bx (List.length xs) cx)), (72, LV.sl 2 0 0 0), (13, LV.int IntKind.i64 ey), (12, LV.raw (Value.slice by_ (List.length ys) cy)), (11, LV.int IntKind.i64 ex), (10, LV.raw (Value.slice bx (List.length xs) cx)), (9, LV.bool true), (8, LV.cst (Value.bool false)), (5, LV.ptr 1 0), (4, LV.ptr 0 0), (0, LV.agg [LV.int IntKind.u16 (Msg.stream a), LV.bool (Msg.unord a), LV.int IntKind.u32 (Msg.ppid a), LV.raw (Value.slice (Msg.db a) (Msg.dn a) (Msg.dc a))]), (1, LV.agg [LV.int IntKind.u16 (Msg.stream b), LV.bool (Msg.unord b), LV.int IntKind.u32 (Msg.ppid b), LV.raw (Value.slice (Msg.db b) (Msg.dn b) (Msg.dc b))]), (2, LV.int IntKind.u32 tsn), (3, LV.int IntKind.i64 most)], H := [(1, LO.lay [LV.int IntKind.u16 (Msg.stream b), LV.bool (Msg.unord b), LV.int IntKind.u32 (Msg.ppid b), LV.raw (Value.slice (Msg.db b) (Msg.dn b) (Msg.dc b))] 26), (0, LO.lay [LV.int IntKind.u16 (Msg.stream a), LV.bool (Msg.unord a), LV.int IntKind.u32 (Msg.ppid a), LV.raw (Value.slice (Msg.db a) (Msg.dn a) (Msg.dc a))] 26)], nx := 3, orc := [] }) (by kernel_rfl) ?_
  refine fun _ => Go.append (base := bz) (n := xs.length) (c := cz) (e := 39) (sz := 12) ys.length rfl rfl rfl rfl rfl rfl rfl rfl rfl rfl rfl fun w3 hs => ?_
  refine ⟨xs.flatMap Chk.cells, ys.flatMap Chk.cells, G, [(1, .lay [.int .u16 b.stream, .bool b.unord, .int .u32 b.ppid, .raw (.slice b.db b.dn b.dc)] 26), (0, .lay [.int .u16 a.stream, .bool a.unord, .int .u32 a.ppid, .raw (.slice a.db a.dn a.dc)] 26)], hs.eq (star_left _ _ _), ?_, ?_, ?_, fun bu cu => ?_⟩
  · have h0 : Sat w (own 39 12 by_ ys.length cy (ys.flatMap Chk.cells) * (own 39 12 bx xs.length cx (xs.flatMap Chk.cells) * (stars (xs.map Chk.own) * stars (ys.map Chk.own)))) w3 := (hs.right.right).eq (by rw [hG]; ac_rfl)
    exact own_src (tx := 28) (e' := 39) rfl h0
  · show (xs.length + ys.length) * 144 ≤ _
    omega
  · omega
  refine Go.run mixed 300 [] rfl ?_
  refine Ok.eq (r' := Res.stop { stk := [It.reg [1, 1, 1, 1, 1, 1, 0] [5, 6, 7, 8, 9, 10, 11], It.code [1, 1, 1, 1, 1, 1, 1]], fr := [(76, LV.raw (Value.slice bu (List.length xs + List.length ys) cu)), (75, LV.raw (Value.slice by_ (List.length ys) cy)), (74, LV.raw (Value.slice bz (List.length xs) cz)), (73, LV.raw (Value.slice bx (List.length xs) cx)), (72, LV.sl 2 0 0 0), (13, LV.int IntKind.i64 ey), (12, LV.raw (Value.slice by_ (List.length ys) cy)), (11, LV.int IntKind.i64 ex), (10, LV.raw (Value.slice bx (List.length xs) cx)), (9, LV.bool true), (8, LV.cst (Value.bool false)), (5, LV.ptr 1 0), (4, LV.ptr 0 0), (0, LV.agg [LV.int IntKind.u16 (Msg.stream a), LV.bool (Msg.unord a), LV.int IntKind.u32 (Msg.ppid a), LV.raw (Value.slice (Msg.db a) (Msg.dn a) (Msg.dc a))]), (1, LV.agg [LV.int IntKind.u16 (Msg.stream b), LV.bool (Msg.unord b), LV.int IntKind.u32 (Msg.ppid b), LV.raw (Value.slice (Msg.db b) (Msg.dn b) (Msg.dc b))]), (2, LV.int IntKind.u32 tsn), (3, LV.int IntKind.i64 most)], H := [(1, LO.lay [LV.int IntKind.u16 (Msg.stream b), LV.bool (Msg.unord b), LV.int IntKind.u32 (Msg.ppid b), LV.raw (Value.slice (Msg.db b) (Msg.dn b) (Msg.dc b))] 26), (0, LO.lay [LV.int IntKind.u16 (Msg.stream a), LV.bool (Msg.unord a), LV.int IntKind.u32 (Msg.ppid a), LV.raw (Value.slice (Msg.db a) (Msg.dn a) (Msg.dc a))] 26)], nx := 3, orc := [] }) (by kernel_rfl) ?_
  obtain ⟨zs, hzs⟩ : ∃ zs, zs = xs ++ ys := ⟨_, rfl⟩
  have hzl : zs.length = xs.length + ys.length := by rw [hzs, List.length_append]
  rw [show xs.flatMap Chk.cells ++ ys.flatMap Chk.cells = zs.flatMap Chk.cells by rw [hzs, List.flatMap_append]]
  refine fun _ => Go.callT rfl rfl rfl rfl rfl rfl fun w3 hs => ?_
  have h0 : Sat w (own 39 12 bu (xs.length + ys.length) cu (zs.flatMap Chk.cells) * (stars (zs.map Chk.own) * (own 39 12 by_ ys.length cy (ys.flatMap Chk.cells) * own 39 12 bx xs.length cx (xs.flatMap Chk.cells)))) w3 := hs.right.eq (by rw [hG, hzs, List.map_append, stars_append]; ac_rfl)
  have hok := oks_of_stars (ls := zs) (fun c hc => by rw [hzs] at hc; rcases List.mem_append.1 hc with hc | hc; (· exact hx1 c hc); exact hy1 c hc) h0.right
  have hwh := whole_spec bu (xs.length + ys.length) cu zs w3 hzl (by omega) (Rd.of_own h0) hok
  obtain ⟨lx, hlx⟩ : ∃ lx, xs[xs.length - 1]? = some lx := ⟨_, List.getElem?_eq_getElem (by omega)⟩
  obtain ⟨fy, hfy⟩ : ∃ fy, ys[0]? = some fy := ⟨_, List.getElem?_eq_getElem (by omega)⟩
  have hfol : follows lx fy = false := by
    obtain ⟨ad, h3⟩ := splits_ck (m := a) (tsn := tsn) (ssn := 3) (n := n) (ads := ads) (k := ads.length - 1) (by omega)
    rw [← hxl, ← ex1, hlx] at h3
    cases h3
    unfold follows
    rw [ck_end, ex1, decide_eq_true rfl]
    simp
  have hno : wholeOk zs = false := by
    refine whole_gap (i := xs.length) (by omega) (by omega) ?_
    have e1 : zs[xs.length - 1]? = some lx := by rw [hzs, List.getElem?_append_left (by omega)]; exact hlx
    have e2 : zs[xs.length]? = some fy := by rw [hzs, List.getElem?_append_right (Nat.le_refl _), Nat.sub_self]; exact hfy
    rw [getD_of e1, getD_of e2]
    exact hfol
  refine hwh.mono fun e w4 he => ?_
  obtain ⟨m2, he1, he2, he3, he4⟩ := he
  rw [hno] at he1
  refine ⟨.tup [m2.lv, .bool false], _, he1, rfl, he2, ?_⟩
  refine Go.runS mixed 300 [] [9] rfl ?_
  refine Ok.eq (r' := Res.new (Res.need [fun x ↦ Value.one (Value.slice (Msg.db m2) (Msg.dn m2) (Msg.dc m2)) = true] (Res.stop { stk := [It.code [1, 1, 1, 1, 1, 1, 1, 0], It.code [1, 1, 1, 1, 1, 1, 1, 1]], fr := [(15, LV.bool false), (13, LV.int IntKind.i64 ey), (12, LV.raw (Value.slice by_ (List.length ys) cy)), (11, LV.int IntKind.i64 ex), (10, LV.raw (Value.slice bx (List.length xs) cx)), (9, LV.bool true), (8, LV.cst (Value.bool false)), (5, LV.ptr 1 0), (4, LV.ptr 0 0), (0, LV.agg [LV.int IntKind.u16 (Msg.stream a), LV.bool (Msg.unord a), LV.int IntKind.u32 (Msg.ppid a), LV.raw (Value.slice (Msg.db a) (Msg.dn a) (Msg.dc a))]), (1, LV.agg [LV.int IntKind.u16 (Msg.stream b), LV.bool (Msg.unord b), LV.int IntKind.u32 (Msg.ppid b), LV.raw (Value.slice (Msg.db b) (Msg.dn b) (Msg.dc b))]), (2, LV.int IntKind.u32 tsn), (3, LV.int IntKind.i64 most)], H := [(3, LO.lay [LV.int IntKind.u16 (Msg.stream m2), LV.bool (Msg.unord m2), LV.int IntKind.u32 (Msg.ppid m2), LV.raw (Value.slice (Msg.db m2) (Msg.dn m2) (Msg.dc m2))] 26), (1, LO.lay [LV.int IntKind.u16 (Msg.stream b), LV.bool (Msg.unord b), LV.int IntKind.u32 (Msg.ppid b), LV.raw (Value.slice (Msg.db b) (Msg.dn b) (Msg.dc b))] 26), (0, LO.lay [LV.int IntKind.u16 (Msg.stream a), LV.bool (Msg.unord a), LV.int IntKind.u32 (Msg.ppid a), LV.raw (Value.slice (Msg.db a) (Msg.dn a) (Msg.dc a))] 26)], nx := 4, orc := [] }))) (by kernel_rfl) ?_
  refine fun b4 => ⟨⟨rfl, trivial⟩, fun _ => ?_⟩
  refine Go.reF (G := own 39 12 bx xs.length cx (xs.flatMap Chk.cells) * (own 39 12 by_ ys.length cy (ys.flatMap Chk.cells) * (own 39 12 bu (xs.length + ys.length) cu (zs.flatMap Chk.cells) * (stars (xs.map Chk.own) * (stars (ys.map Chk.own) * (m2.own * 1)))))) (by rw [hG]; ac_rfl) ?_
  refine Go.openOwn (by omega) rfl (fun _ => rfl) fun S hS => ⟨[(15, .bool false), (12, .raw (.slice by_ ys.length cy)), (10, .sl 4 S.pre.length xs.length cx), (9, .bool true), (8, .cst (.bool false))], FrEq.of_all ⟨rfl, rfl, by show Value.slice _ _ _ = Value.slice _ _ _; rw [hS.1]; rfl, rfl, rfl, trivial⟩, rfl, ?_⟩
  refine Go.openOwn (by omega) rfl (fun _ => rfl) fun S2 hS2 => ⟨[(15, .bool false), (12, .sl 5 S2.pre.length ys.length cy), (10, .sl 4 S.pre.length xs.length cx), (9, .bool true), (8, .cst (.bool false))], FrEq.of_all ⟨rfl, by show Value.slice _ _ _ = Value.slice _ _ _; rw [hS2.1]; rfl, rfl, rfl, rfl, trivial⟩, rfl, ?_⟩
  have hw1 : IntKind.i64.wrap ((xs.length : Int) - 1) = ((xs.length - 1 : Nat) : Int) := by rw [IntWalk.i64_in _ (by omega)]; omega
  refine Go.run mixed 300 [.agg lx.lvL, .agg fy.lvL] rfl ?_
  refine Ok.eq (r' := Res.need [fun β ↦ true = true → allP β [fun x ↦ (0 : Int) ≤ IntKind.wrap IntKind.i64 ((↑(List.length xs) : Int) - (1 : Int)) ∧ IntKind.wrap IntKind.i64 ((↑(List.length xs) : Int) - (1 : Int)) < (↑(List.length xs) : Int)]] (Res.need [fun β ↦ true = true → allP β [fun β ↦ E.rowAt β ((fun x j ↦ (Strip.pre S ++ List.flatMap Chk.cells xs ++ Strip.spare S)[j]?) β) (List.length (Strip.pre S) + Int.toNat (IntKind.wrap IntKind.i64 ((↑(List.length xs) : Int) - (1 : Int))) * 12) (Chk.lvL lx)]] (Res.need [fun β ↦ true = true → allP β [fun x ↦ (0 : Int) ≤ (0 : Int) ∧ (0 : Int) < (↑(List.length ys) : Int)]] (Res.need [fun β ↦ true = true → allP β [fun β ↦ E.rowAt β ((fun x j ↦ (Strip.pre S2 ++ List.flatMap Chk.cells ys ++ Strip.spare S2)[j]?) β) (List.length (Strip.pre S2) + 0) (Chk.lvL fy)]] (Res.ite true (Res.stop { stk := [It.dop [1, 1, 1, 1, 1, 1, 1, 0] 2047 7 524287 [(5, LO.arr (Strip.pre S2 ++ List.flatMap Chk.cells ys ++ Strip.spare S2) 39), (4, LO.arr (Strip.pre S ++ List.flatMap Chk.cells xs ++ Strip.spare S) 39), (3, LO.lay [LV.int IntKind.u16 (Msg.stream m2), LV.bool (Msg.unord m2), LV.int IntKind.u32 (Msg.ppid m2), LV.raw (Value.slice (Msg.db m2) (Msg.dn m2) (Msg.dc m2))] 26), (1, LO.lay [LV.int IntKind.u16 (Msg.stream b), LV.bool (Msg.unord b), LV.int IntKind.u32 (Msg.ppid b), LV.raw (Value.slice (Msg.db b) (Msg.dn b) (Msg.dc b))] 26), (0, LO.lay [LV.int IntKind.u16 (Msg.stream a), LV.bool (Msg.unord a), LV.int IntKind.u32 (Msg.ppid a), LV.raw (Value.slice (Msg.db a) (Msg.dn a) (Msg.dc a))] 26)] 11, It.code [1, 1, 1, 1, 1, 1, 1, 1]], fr := [(81, LV.cst (Value.bool true)), (90, LV.agg [LV.int IntKind.u8 (Chk.kind fy), LV.int IntKind.u8 (Chk.flags fy), LV.int IntKind.u32 (Chk.a fy), LV.int IntKind.u32 (Chk.b fy), LV.int IntKind.u16 (Chk.out fy), LV.int IntKind.u16 (Chk.inn fy), LV.int IntKind.u32 (Chk.ppid fy), LV.raw (Chk.r7 fy), LV.raw (Chk.r8 fy), LV.raw (Chk.r9 fy), LV.raw (Chk.r10 fy), LV.raw (Value.slice (Chk.db fy) (Chk.dn fy) (Chk.dc fy))]), (89, LV.ptr 5 (List.length (Strip.pre S2) + 0)), (88, LV.sl 5 (List.length (Strip.pre S2)) (List.length ys) cy), (87, LV.agg [LV.int IntKind.u8 (Chk.kind lx), LV.int IntKind.u8 (Chk.flags lx), LV.int IntKind.u32 (Chk.a lx), LV.int IntKind.u32 (Chk.b lx), LV.int IntKind.u16 (Chk.out lx), LV.int IntKind.u16 (Chk.inn lx), LV.int IntKind.u32 (Chk.ppid lx), LV.raw (Chk.r7 lx), LV.raw (Chk.r8 lx), LV.raw (Chk.r9 lx), LV.raw (Chk.r10 lx), LV.raw (Value.slice (Chk.db lx) (Chk.dn lx) (Chk.dc lx))]), (86, LV.ptr 4 (List.length (Strip.pre S) + Int.toNat (IntKind.wrap IntKind.i64 ((↑(List.length xs) : Int) - (1 : Int))) * 12)), (85, LV.int IntKind.i64 (IntKind.wrap IntKind.i64 ((↑(List.length xs) : Int) - (1 : Int)))), (84, LV.int IntKind.i64 (↑(List.length xs) : Int)), (83, LV.sl 4 (List.length (Strip.pre S)) (List.length xs) cx), (82, LV.sl 4 (List.length (Strip.pre S)) (List.length xs) cx), (80, LV.bool true), (15, LV.bool false), (12, LV.sl 5 (List.length (Strip.pre S2)) (List.length ys) cy), (10, LV.sl 4 (List.length (Strip.pre S)) (List.length xs) cx), (9, LV.bool true), (8, LV.cst (Value.bool false))], H := [(5, LO.arr (Strip.pre S2 ++ List.flatMap Chk.cells ys ++ Strip.spare S2) 39), (4, LO.arr (Strip.pre S ++ List.flatMap Chk.cells xs ++ Strip.spare S) 39), (3, LO.lay [LV.int IntKind.u16 (Msg.stream m2), LV.bool (Msg.unord m2), LV.int IntKind.u32 (Msg.ppid m2), LV.raw (Value.slice (Msg.db m2) (Msg.dn m2) (Msg.dc m2))] 26), (1, LO.lay [LV.int IntKind.u16 (Msg.stream b), LV.bool (Msg.unord b), LV.int IntKind.u32 (Msg.ppid b), LV.raw (Value.slice (Msg.db b) (Msg.dn b) (Msg.dc b))] 26), (0, LO.lay [LV.int IntKind.u16 (Msg.stream a), LV.bool (Msg.unord a), LV.int IntKind.u32 (Msg.ppid a), LV.raw (Value.slice (Msg.db a) (Msg.dn a) (Msg.dc a))] 26)], nx := 6, orc := [] }) (Res.leave Leave.ret { stk := [It.code [1, 1, 1, 1, 1, 1, 1, 1]], fr := [(8, LV.cst (Value.bool false)), (15, LV.bool false), (12, LV.sl 5 (List.length (Strip.pre S2)) (List.length ys) cy), (10, LV.sl 4 (List.length (Strip.pre S)) (List.length xs) cx), (9, LV.bool true)], H := [(5, LO.arr (Strip.pre S2 ++ List.flatMap Chk.cells ys ++ Strip.spare S2) 39), (4, LO.arr (Strip.pre S ++ List.flatMap Chk.cells xs ++ Strip.spare S) 39), (3, LO.lay [LV.int IntKind.u16 (Msg.stream m2), LV.bool (Msg.unord m2), LV.int IntKind.u32 (Msg.ppid m2), LV.raw (Value.slice (Msg.db m2) (Msg.dn m2) (Msg.dc m2))] 26), (1, LO.lay [LV.int IntKind.u16 (Msg.stream b), LV.bool (Msg.unord b), LV.int IntKind.u32 (Msg.ppid b), LV.raw (Value.slice (Msg.db b) (Msg.dn b) (Msg.dc b))] 26), (0, LO.lay [LV.int IntKind.u16 (Msg.stream a), LV.bool (Msg.unord a), LV.int IntKind.u32 (Msg.ppid a), LV.raw (Value.slice (Msg.db a) (Msg.dn a) (Msg.dc a))] 26)], nx := 6, orc := [] })))))) (by kernel_rfl) ?_
  rw [hw1, show (((xs.length - 1 : Nat) : Int)).toNat = xs.length - 1 by omega]
  refine ⟨⟨fun _ => ⟨by omega, trivial⟩, trivial⟩, ⟨fun _ => ⟨arr_row hlx S.pre S.spare rfl _, trivial⟩, trivial⟩, ⟨fun _ => ⟨by omega, trivial⟩, trivial⟩, ⟨fun _ => ⟨arr_row hfy S2.pre S2.spare (by omega) _, trivial⟩, trivial⟩, ?_⟩
  refine ⟨fun _ => fun _ => ?_, fun h => by simp at h⟩
  refine Go.callDT rfl rfl rfl rfl rfl rfl rfl rfl fun w5 hs => ?_
  have ox := (hx1 lx (List.mem_of_getElem? hlx)).1
  have oy := (hy1 fy (List.mem_of_getElem? hfy)).1
  have hf := follows_spec lx fy ox oy w5
  rw [hfol] at hf
  refine hf.mono fun e w6 he => ⟨.bool false, 1, he.1, rfl, he.2, ?_⟩
  refine Go.run mixed 300 [] rfl ?_
  refine Ok.eq (r' := Res.leave Leave.ret { stk := [It.code [1, 1, 1, 1, 1, 1, 1, 1]], fr := [(8, LV.bool true), (15, LV.bool false), (12, LV.sl 5 (List.length (Strip.pre S2)) (List.length ys) cy), (10, LV.sl 4 (List.length (Strip.pre S)) (List.length xs) cx), (9, LV.bool true)], H := [(5, LO.arr (Strip.pre S2 ++ List.flatMap Chk.cells ys ++ Strip.spare S2) 39), (4, LO.arr (Strip.pre S ++ List.flatMap Chk.cells xs ++ Strip.spare S) 39), (3, LO.lay [LV.int IntKind.u16 (Msg.stream m2), LV.bool (Msg.unord m2), LV.int IntKind.u32 (Msg.ppid m2), LV.raw (Value.slice (Msg.db m2) (Msg.dn m2) (Msg.dc m2))] 26), (1, LO.lay [LV.int IntKind.u16 (Msg.stream b), LV.bool (Msg.unord b), LV.int IntKind.u32 (Msg.ppid b), LV.raw (Value.slice (Msg.db b) (Msg.dn b) (Msg.dc b))] 26), (0, LO.lay [LV.int IntKind.u16 (Msg.stream a), LV.bool (Msg.unord a), LV.int IntKind.u32 (Msg.ppid a), LV.raw (Value.slice (Msg.db a) (Msg.dn a) (Msg.dc a))] 26)], nx := 6, orc := [] }) (by kernel_rfl) ?_
  exact leave_ok (fun _ => nofun) rfl fun w hs => ⟨rfl, hs.one⟩

end Go.Proofs.Ytlgggljlegpaoaa
