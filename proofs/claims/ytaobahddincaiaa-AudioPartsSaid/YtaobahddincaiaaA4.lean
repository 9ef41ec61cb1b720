/- Layer 20: 'slices.Delete' of the first packet, and 'Pull', walked. -/
import Derived.Test.YtaobahddincaiaaA3
namespace Go.Proofs.Ytaobahddincaiaa
open Go Go.E Go.Proofs

theorem delete_spec (base : Option Addr) (n c : Nat) (l : List Value) (hn : 0 < n) (hn2 : n ≤ 100000) {w0 : World} {F : HP} {w : World} (hs : Sat w0 (own 33 6 base n c l * F) w) :
    Calls Try.prog 19 #[.slice base n c, .int .i64 0, .int .i64 1] w fun e w' => ∃ base' c', e = .returned (.slice base' (n - 1) c') ∧ Sat w0 (own 33 6 base' (n - 1) c' (l.drop 6) * F) w' := by
  rcases own_cases hs with ⟨rfl, rfl, rfl, rfl, hF⟩ | ⟨s, ⟨rfl, h1, h2, h3, h4⟩, hF⟩
  · omega
  refine Calls.enter (cfg := cfg19 w0) (β := [s.b]) (H := [(0, .arr (s.pre ++ l ++ s.spare) 33)]) (F := F) (l := [.sl 0 s.pre.length n c, .int .i64 0, .int .i64 1]) Try.func19 rfl rfl (Nat.le_of_ble_eq_true rfl) rfl (hF.eq ?_) ?_
  · simp [satH, atom, denO, bk, mul_one]
  refine Go.run mixed 300 [] rfl ?_
  refine Ok.eq (r' := Res.need [fun x ↦ (0 : Int) ≤ (↑n : Int) ∧ (↑n : Int) ≤ (↑c : Int), fun x ↦ (0 : Int) ≤ (1 : Int) ∧ (1 : Int) ≤ (↑(Int.toNat (↑n : Int)) : Int), fun x ↦ (0 : Int) ≤ (0 : Int) ∧ (0 : Int) ≤ (↑1 : Int)] (Res.ite false (Res.leave Leave.ret { stk := [It.code [1, 1, 0, 1, 0, 1], It.code [1, 1, 1]], fr := [(6, LV.sl 0 (List.length (Strip.pre s)) n c), (0, LV.sl 0 (List.length (Strip.pre s)) n c), (1, LV.int IntKind.i64 (0 : Int)), (2, LV.int IntKind.i64 (1 : Int))], H := [(0, LO.arr (Strip.pre s ++ l ++ Strip.spare s) 33)], nx := 1, orc := [] }) (Res.need [fun x ↦ (0 : Int) ≤ (0 : Int) ∧ (0 : Int) ≤ (↑c : Int)] (Res.need [fun x ↦ (0 : Int) ≤ (1 : Int) ∧ (1 : Int) ≤ (↑n : Int)] (Res.stop { stk := [It.dop [1, 1, 1, 1, 0] 63 1 255 [] 6, It.code [1, 1, 1, 1, 1]], fr := [(25, LV.sl 0 (if c = 1 then List.length (Strip.pre s) else List.length (Strip.pre s) + 6) (n - 1) (c - 1)), (24, LV.int IntKind.i64 (1 : Int)), (23, LV.sl 0 (List.length (Strip.pre s)) n c), (22, LV.sl 0 (List.length (Strip.pre s)) 0 (c - 0)), (21, LV.int IntKind.i64 (0 : Int)), (20, LV.sl 0 (List.length (Strip.pre s)) n c), (7, LV.int IntKind.i64 (↑n : Int)), (6, LV.cst (Value.slice none 0 0)), (0, LV.sl 0 (List.length (Strip.pre s)) n c), (1, LV.int IntKind.i64 (0 : Int)), (2, LV.int IntKind.i64 (1 : Int))], H := [(0, LO.arr (Strip.pre s ++ l ++ Strip.spare s) 33)], nx := 1, orc := [] }))))) (by kernel_rfl) ?_
  have hz : (Builtin.zeroCells (Pkt.val ⟨false, 0, 0, 0, 0, none, 0, 0, []⟩).cells 1).toList = Pkt.cells ⟨false, 0, 0, 0, 0, none, 0, 0, []⟩ := zeroCells_one _
  refine ⟨⟨by omega, by simp; omega, by simp, trivial⟩, fun h => by simp at h, fun _ => ⟨⟨by simp, trivial⟩, ⟨by simp; omega, trivial⟩, ?_⟩⟩
  have hd6 : (l.drop 6).length = (n - 1) * 6 := by rw [List.length_drop, h1]; omega
  have hlen0 : (s.pre ++ l ++ s.spare).length = s.pre.length + n * 6 + (c - n) * 6 := by simp [h1, h3]; omega
  refine fun _ => Go.bltSetD (id := 0) (cs := s.pre ++ l ++ s.spare) (ety := 33) (.sl 0 s.pre.length (n - 1) c) (s.pre ++ (l.drop 6 ++ l.drop ((n - 1) * 6)) ++ s.spare) rfl rfl rfl rfl rfl rfl rfl rfl rfl (fun w hs => ?_) ?_
  · have hb := arr_heap (id := 0) rfl hs
    have hsrc : Src Try.prog 6 53 (.slice (some ⟨s.b, (if c = 1 then s.pre.length else s.pre.length + 6), none⟩) (n - 1) (c - 1)) (n - 1) (l.drop 6) w := by
      refine Src.of_block (tx := 53) (e' := 33) rfl hb hd6 (fun j u hj => ?_) (fun u hu => h4 u (List.mem_of_mem_drop hu))
      have hlt : j < (l.drop 6).length := (List.getElem?_eq_some_iff.1 hj).1
      rw [if_neg (by omega)]
      rw [List.getElem?_drop] at hj
      have := (At.mid (a := s.pre) (m := l) (b := s.spare)) (6 + j) u hj
      rw [← this, List.getElem?_toArray]; congr 1; omega
    obtain ⟨w', hr, hw⟩ := blk_append (P := Try.prog) (t := 53) (tx := 53) (ty := 0) (e := 33) (n := 0) (c := c) (off := s.pre.length) (b := s.b) rfl rfl rfl hb hsrc (by omega) (by rw [hd6, hlen0]; omega)
    refine ⟨w', fun cc => ?_, ?_⟩
    · have e2 : (.slice (some ⟨s.b, s.pre.length, none⟩) (0 + (n - 1)) c : Value) = den [s.b] (.sl 0 s.pre.length (n - 1) c) := by simp [den, bk]
      rw [← e2]
      exact blt_append hr
    · have e3 : setL (s.pre ++ l ++ s.spare) (s.pre.length + 0 * 6) (l.drop 6) = s.pre ++ (l.drop 6 ++ l.drop ((n - 1) * 6)) ++ s.spare := by
        rw [Nat.zero_mul, setL_mid (by rw [hd6, h1]; omega), setL_eq _ _ _ (by rw [hd6, h1]; omega), hd6]; simp
      rw [← e3]; exact hw
  refine Go.run mixed 300 [] rfl ?_
  refine Ok.eq (r' := Res.need [fun x ↦ (0 : Int) ≤ (↑n : Int) ∧ (↑n : Int) ≤ (↑c : Int), fun x ↦ (0 : Int) ≤ (↑(n - 1) : Int) ∧ (↑(n - 1) : Int) ≤ (↑(Int.toNat (↑n : Int)) : Int)] (Res.stop { stk := [It.reg [1, 1, 1, 1, 1, 0] [5], It.code [1, 1, 1, 1, 1, 1]], fr := [(31, LV.sl 0 (if c = Int.toNat (↑(n - 1) : Int) then List.length (Strip.pre s) else List.length (Strip.pre s) + Int.toNat (↑(n - 1) : Int) * 6) (Int.toNat (↑n : Int) - Int.toNat (↑(n - 1) : Int)) (c - Int.toNat (↑(n - 1) : Int))), (30, LV.int IntKind.i64 (↑n : Int)), (29, LV.int IntKind.i64 (↑(n - 1) : Int)), (28, LV.sl 0 (List.length (Strip.pre s)) (n - 1) c), (27, LV.sl 0 (List.length (Strip.pre s)) (n - 1) c), (0, LV.sl 0 (List.length (Strip.pre s)) (n - 1) c), (7, LV.int IntKind.i64 (↑n : Int)), (6, LV.cst (Value.slice none 0 0)), (1, LV.int IntKind.i64 (0 : Int)), (2, LV.int IntKind.i64 (1 : Int))], H := [(0, LO.arr (Strip.pre s ++ (List.drop 6 l ++ List.drop ((n - 1) * 6) l) ++ Strip.spare s) 33)], nx := 1, orc := [] })) (by kernel_rfl) ?_
  have ec : ¬ c = ((n - 1 : Nat) : Int).toNat := by omega
  have e4 : ((n : Nat) : Int).toNat - ((n - 1 : Nat) : Int).toNat = 1 := by omega
  have e5 : ((n - 1 : Nat) : Int).toNat = n - 1 := by omega
  rw [if_neg ec, e4, e5]
  have hpk : (Pkt.cells ⟨false, 0, 0, 0, 0, none, 0, 0, []⟩).length = 6 := rfl
  refine ⟨⟨by omega, by omega, trivial⟩, fun _ => Go.bltSet (id := 0) (cs := s.pre ++ (l.drop 6 ++ l.drop ((n - 1) * 6)) ++ s.spare) (ety := 33) (.tup []) (s.pre ++ (l.drop 6 ++ Pkt.cells ⟨false, 0, 0, 0, 0, none, 0, 0, []⟩) ++ s.spare) rfl rfl rfl rfl rfl rfl rfl (fun w hs => ?_) ?_⟩
  · have hb := arr_heap (id := 0) rfl hs
    have hdl : (l.drop ((n - 1) * 6)).length = 6 := by rw [List.length_drop, h1]; omega
    obtain ⟨w', hr, hw⟩ := blk_clear (P := Try.prog) (t := 53) (ty := 0) (e := 33) (z := Pkt.val ⟨false, 0, 0, 0, 0, none, 0, 0, []⟩) (n := 1) (c := c - (n - 1)) (off := s.pre.length + (n - 1) * 6) (b := s.b) rfl (fun _ => rfl) (fun v hv => by
      have : v ∈ Pkt.cells ⟨false, 0, 0, 0, 0, none, 0, 0, []⟩ := hv
      simp only [Pkt.cells, List.mem_cons, List.not_mem_nil, or_false] at this
      rcases this with rfl | rfl | rfl | rfl | rfl | rfl <;> rfl) hb (by
        have : ((Pkt.val ⟨false, 0, 0, 0, 0, none, 0, 0, []⟩).cells).size = 6 := rfl
        rw [this]; simp only [List.length_append, hd6, hdl]; omega)
    refine ⟨w', fun cc => ?_, ?_⟩
    · exact blt_clear hr
    · have e3 : setL (s.pre ++ (l.drop 6 ++ l.drop ((n - 1) * 6)) ++ s.spare) (s.pre.length + (n - 1) * 6) (Builtin.zeroCells (Pkt.val ⟨false, 0, 0, 0, 0, none, 0, 0, []⟩).cells 1).toList = s.pre ++ (l.drop 6 ++ Pkt.cells ⟨false, 0, 0, 0, 0, none, 0, 0, []⟩) ++ s.spare := by
        have e4 : setL (l.drop 6 ++ l.drop ((n - 1) * 6)) ((n - 1) * 6) (Pkt.cells ⟨false, 0, 0, 0, 0, none, 0, 0, []⟩) = l.drop 6 ++ Pkt.cells ⟨false, 0, 0, 0, 0, none, 0, 0, []⟩ := by
          have := setL_tail (a := l.drop 6) (b := l.drop ((n - 1) * 6)) (vs := Pkt.cells ⟨false, 0, 0, 0, 0, none, 0, 0, []⟩) (by rw [hdl]; rfl)
          rwa [hd6] at this
        rw [hz, setL_mid (by rw [hpk, List.length_append, hd6, hdl]; exact Nat.le_refl _), e4]
      rw [← e3]; exact hw
  refine Go.run mixed 300 [] rfl ?_
  refine Ok.eq (r' := Res.leave Leave.ret { stk := [It.code [1, 1, 1, 1, 1, 1, 1]], fr := [(6, LV.sl 0 (List.length (Strip.pre s)) (n - 1) c), (0, LV.sl 0 (List.length (Strip.pre s)) (n - 1) c), (7, LV.int IntKind.i64 (↑n : Int)), (1, LV.int IntKind.i64 (0 : Int)), (2, LV.int IntKind.i64 (1 : Int))], H := [(0, LO.arr (Strip.pre s ++ (List.drop 6 l ++ Pkt.cells { marker := false, kind := (0 : Int), seq := (0 : Int), stamp := (0 : Int), source := (0 : Int), db := none, dn := 0, dc := 0, bytes := [] }) ++ Strip.spare s) 33)], nx := 1, orc := [] }) (by kernel_rfl) ?_
  refine leave_ok (fun _ => nofun) rfl fun w hs => ⟨some ⟨s.b, s.pre.length, none⟩, c, rfl, ?_⟩
  refine own_strip ⟨s.b, s.pre, Pkt.cells ⟨false, 0, 0, 0, 0, none, 0, 0, []⟩ ++ s.spare⟩ ⟨rfl, hd6, by omega, ?_, fun u hu => h4 u (List.mem_of_mem_drop hu)⟩ (hs.eq ?_)
  · rw [List.length_append, h3, hpk]; omega
  · simp [satH, atom, denO, bk, mul_one]

def noPkt : Pkt := ⟨false, 0, 0, 0, 0, none, 0, 0, []⟩

theorem pull_none (bf bl : Nat) (room : Int) (ls : List LisM) (hwf : Wf ls) (k : Nat) (x : LisM) (hk : ls[k]? = some x) (hx0 : x.wait = []) {w0 : World} {F : HP} {w : World} (hs : Sat w0 (fwd bf bl room ls * F) w) :
    Calls Try.prog 9 #[.pointer (some ⟨bf, 0, none⟩), .int .i64 k] w fun e w' => e = .returned (.tuple #[noPkt.val, .bool false]) ∧ Sat w0 (fwd bf bl room ls * F) w' := by
  have hlt : k < ls.length := (List.getElem?_eq_some_iff.1 hk).1
  have hc : At (ls.flatMap LisM.cells) (67 * k) x.cells := flat_at hwf.cells hk
  have hx : x.of.length = 16 := hwf x (List.mem_of_getElem? hk)
  refine Calls.enter (cfg := cfg9 w0) (β := [bf, bl]) (H := [(0, .lay [.sl 1 0 ls.length ls.length, .int .i64 room] 47), (1, .arr (ls.flatMap LisM.cells) 55)]) (F := stars (ls.map LisM.hp) * F) (l := [.ptr 0 0, .int .i64 k]) Try.func9 rfl rfl (Nat.le_of_ble_eq_true rfl) rfl (hs.eq ?_) ?_
  · simp [satH, atom, denO, bk, mul_one, fwd, fwdBlock, denL, den, star_assoc]
  refine Go.run mixed 300 [] rfl ?_
  refine Ok.eq (r' := Res.new (Res.stop { stk := [It.reg [1, 0] [2, 3], It.code [1, 1]], fr := [(9, LV.int IntKind.i64 (↑k : Int)), (8, LV.ptr 0 0), (5, LV.cst (Value.bool false)), (4, LV.ptr 2 0), (0, LV.ptr 0 0), (1, LV.int IntKind.i64 (↑k : Int))], H := [(2, LO.lay [LV.cst (Value.bool false), LV.int IntKind.u8 (0 : Int), LV.int IntKind.u16 (0 : Int), LV.int IntKind.u32 (0 : Int), LV.int IntKind.u32 (0 : Int), LV.cst (Value.slice none 0 0)] 33), (0, LO.lay [LV.sl 1 0 (List.length ls) (List.length ls), LV.int IntKind.i64 room] 47), (1, LO.arr (List.flatMap LisM.cells ls) 55)], nx := 3, orc := [] })) (by kernel_rfl) ?_
  refine fun b4 _ => Go.call rfl rfl rfl rfl rfl fun w hs => ?_
  refine (at_spec bf bl ls.length room k hlt (F := pt bl (.cells (ls.flatMap LisM.cells).toArray 55 (0, 0)) * (pt b4 (.cells noPkt.cells.toArray 33) * (stars (ls.map LisM.hp) * F))) (hs.eq ?_)).mono fun e w' he => ⟨_, he.1, ?_⟩
  · simp [satH, atom, denO, bk, mul_one, fwdBlock, denL, den, noPkt, Pkt.cells, star_assoc]; ac_rfl
  refine After.keep (γ := []) (H' := [(2, .lay [.cst (.bool false), .int .u8 0, .int .u16 0, .int .u32 0, .int .u32 0, .cst (.slice none 0 0)] 33), (0, .lay [.sl 1 0 ls.length ls.length, .int .i64 room] 47), (1, .arr (ls.flatMap LisM.cells) 55)]) (F' := stars (ls.map LisM.hp) * F) (lv := .ptr 1 (k * 67)) rfl rfl rfl rfl (he.2.eq ?_) ?_
  · simp [satH, atom, denO, bk, mul_one, fwdBlock, denL, den, noPkt, Pkt.cells, star_assoc]; ac_rfl
  refine Go.runS mixed 300 [.raw (.slice x.wb x.wait.length x.wc)] [4] rfl ?_
  refine Ok.eq (r' := Res.need [fun β ↦ (fun x j ↦ (List.flatMap LisM.cells ls)[j]?) β (k * 67 + 65) = some (den β (LV.raw (Value.slice (LisM.wb x) (List.length (Lis.wait (LisM.toLis x))) (LisM.wc x))))] (Res.ite ((↑(List.length (Lis.wait (LisM.toLis x))) : Int) == (0 : Int)) (Res.leave Leave.ret { stk := [It.code [1, 1, 0, 1, 0, 1], It.code [1, 1, 1]], fr := [(5, LV.cst (Value.bool false)), (6, LV.ptr 1 (k * 67)), (4, LV.ptr 2 0), (0, LV.ptr 0 0), (1, LV.int IntKind.i64 (↑k : Int))], H := [(2, LO.lay [LV.cst (Value.bool false), LV.int IntKind.u8 (0 : Int), LV.int IntKind.u16 (0 : Int), LV.int IntKind.u32 (0 : Int), LV.int IntKind.u32 (0 : Int), LV.cst (Value.slice none 0 0)] 33), (0, LO.lay [LV.sl 1 0 (List.length ls) (List.length ls), LV.int IntKind.i64 room] 47), (1, LO.arr (List.flatMap LisM.cells ls) 55)], nx := 3, orc := [] }) (Res.stop { stk := [It.code [1, 1, 1, 0], It.code [1, 1, 1, 1]], fr := [(6, LV.ptr 1 (k * 67)), (5, LV.cst (Value.bool false)), (4, LV.ptr 2 0), (0, LV.ptr 0 0), (1, LV.int IntKind.i64 (↑k : Int))], H := [(2, LO.lay [LV.cst (Value.bool false), LV.int IntKind.u8 (0 : Int), LV.int IntKind.u16 (0 : Int), LV.int IntKind.u32 (0 : Int), LV.int IntKind.u32 (0 : Int), LV.cst (Value.slice none 0 0)] 33), (0, LO.lay [LV.sl 1 0 (List.length ls) (List.length ls), LV.int IntKind.i64 room] 47), (1, LO.arr (List.flatMap LisM.cells ls) 55)], nx := 3, orc := [] }))) (by kernel_rfl) ?_
  refine ⟨⟨?_, trivial⟩, fun _ => leave_okC (fun _ => nofun) rfl trivial fun w hs => ⟨rfl, ?_⟩, fun h => ?_⟩
  · rw [show k * 67 + 65 = 67 * k + 65 + 0 by omega]
    exact (hc.part (x.at_tail hx)).get (j := 0) rfl
  · refine Sat.right (p := pt b4 (.cells noPkt.cells.toArray 33)) (hs.eq ?_)
    simp [satH, atom, denO, bk, mul_one, fwd, fwdBlock, denL, den, noPkt, Pkt.cells, star_assoc]
  · rw [hx0] at h; simp at h

theorem pull_spec (bf bl : Nat) (room : Int) (ls : List LisM) (hwf : Wf ls) (k : Nat) (x : LisM) (hk : ls[k]? = some x) (p : Pkt) (rest : List Pkt) (hx1 : x.wait = p :: rest) (hw : x.wait.length ≤ 100000)
    {w0 : World} {F : HP} {w : World} (hs : Sat w0 (fwd bf bl room ls * F) w) :
    Calls Try.prog 9 #[.pointer (some ⟨bf, 0, none⟩), .int .i64 k] w fun e w' => ∃ x' : LisM, x'.toLis = { x.toLis with wait := rest } ∧ e = .returned (.tuple #[p.val, .bool true]) ∧ Sat w0 (fwd bf bl room (ls.set k x') * (p.hp * F)) w' := by
  have hlt : k < ls.length := (List.getElem?_eq_some_iff.1 hk).1
  have hc : At (ls.flatMap LisM.cells) (67 * k) x.cells := flat_at hwf.cells hk
  have hx : x.of.length = 16 := hwf x (List.mem_of_getElem? hk)
  have hs' := hs
  rw [fwd_get hk] at hs'
  have hs2 : Sat w0 (own 33 6 x.wb x.wait.length x.wc (x.wait.flatMap Pkt.cells) * (pt bf (fwdBlock bl ls.length room) * (pt bl (.cells (ls.flatMap LisM.cells).toArray 55 (0, 0)) * (stars (x.wait.map Pkt.hp) * (stars ((ls.map LisM.hp).eraseIdx k) * F))))) w := by
    refine hs'.eq ?_
    unfold LisM.hp LisM.ownW; ac_rfl
  rcases own_cases hs2 with ⟨_, h0, _⟩ | ⟨s, ⟨hb, h1, h2, h3, h4⟩, hF⟩
  · rw [hx1] at h0; simp at h0
  obtain ⟨n, hn⟩ : ∃ n, n = x.wait.length := ⟨_, rfl⟩
  obtain ⟨l, hl⟩ : ∃ l, l = x.wait.flatMap Pkt.cells := ⟨_, rfl⟩
  rw [← hn] at h1 h2 h3
  rw [← hl] at hF h1
  refine Calls.enter (cfg := cfg9 w0) (β := [bf, bl, s.b]) (H := [(0, .lay [.sl 1 0 ls.length ls.length, .int .i64 room] 47), (1, .arr (ls.flatMap LisM.cells) 55), (2, .arr (s.pre ++ l ++ s.spare) 33)]) (F := stars (x.wait.map Pkt.hp) * (stars ((ls.map LisM.hp).eraseIdx k) * F)) (l := [.ptr 0 0, .int .i64 k]) Try.func9 rfl rfl (Nat.le_of_ble_eq_true rfl) rfl (hF.eq ?_) ?_
  · simp [satH, atom, denO, bk, mul_one, fwdBlock, denL, den, star_assoc]; ac_rfl
  refine Go.run mixed 300 [] rfl ?_
  refine Ok.eq (r' := Res.new (Res.stop { stk := [It.reg [1, 0] [2, 3], It.code [1, 1]], fr := [(9, LV.int IntKind.i64 (↑k : Int)), (8, LV.ptr 0 0), (5, LV.cst (Value.bool false)), (4, LV.ptr 3 0), (0, LV.ptr 0 0), (1, LV.int IntKind.i64 (↑k : Int))], H := [(3, LO.lay [LV.cst (Value.bool false), LV.int IntKind.u8 (0 : Int), LV.int IntKind.u16 (0 : Int), LV.int IntKind.u32 (0 : Int), LV.int IntKind.u32 (0 : Int), LV.cst (Value.slice none 0 0)] 33), (0, LO.lay [LV.sl 1 0 (List.length ls) (List.length ls), LV.int IntKind.i64 room] 47), (1, LO.arr (List.flatMap LisM.cells ls) 55), (2, LO.arr (Strip.pre s ++ l ++ Strip.spare s) 33)], nx := 4, orc := [] })) (by kernel_rfl) ?_
  refine fun b4 _ => Go.call rfl rfl rfl rfl rfl fun w hs => ?_
  refine (at_spec bf bl ls.length room k hlt (F := pt bl (.cells (ls.flatMap LisM.cells).toArray 55 (0, 0)) * (pt s.b (.cells (s.pre ++ l ++ s.spare).toArray 33) * (pt b4 (.cells noPkt.cells.toArray 33) * (stars (x.wait.map Pkt.hp) * (stars ((ls.map LisM.hp).eraseIdx k) * F))))) (hs.eq ?_)).mono fun e w' he => ⟨_, he.1, ?_⟩
  · simp [satH, atom, denO, bk, mul_one, fwdBlock, denL, den, noPkt, Pkt.cells, star_assoc]; ac_rfl
  refine After.keep (γ := []) (H' := [(3, .lay [.cst (.bool false), .int .u8 0, .int .u16 0, .int .u32 0, .int .u32 0, .cst (.slice none 0 0)] 33), (0, .lay [.sl 1 0 ls.length ls.length, .int .i64 room] 47), (1, .arr (ls.flatMap LisM.cells) 55), (2, .arr (s.pre ++ l ++ s.spare) 33)]) (F' := stars (x.wait.map Pkt.hp) * (stars ((ls.map LisM.hp).eraseIdx k) * F)) (lv := .ptr 1 (k * 67)) rfl rfl rfl rfl (he.2.eq ?_) ?_
  · simp [satH, atom, denO, bk, mul_one, fwdBlock, denL, den, noPkt, Pkt.cells, star_assoc]; ac_rfl
  refine Go.run mixed 300 [.sl 2 s.pre.length n x.wc, .sl 2 s.pre.length n x.wc, p.lv, .sl 2 s.pre.length n x.wc] rfl ?_
  refine Ok.eq (r' := Res.need [fun β ↦ (fun x j ↦ (List.flatMap LisM.cells ls)[j]?) β (k * 67 + 65) = some (den β (LV.sl 2 (List.length (Strip.pre s)) n (LisM.wc x)))] (Res.ite ((↑n : Int) == (0 : Int)) (Res.leave Leave.ret { stk := [It.code [1, 1, 0, 1, 0, 1], It.code [1, 1, 1]], fr := [(5, LV.cst (Value.bool false)), (6, LV.ptr 1 (k * 67)), (4, LV.ptr 3 0), (0, LV.ptr 0 0), (1, LV.int IntKind.i64 (↑k : Int))], H := [(3, LO.lay [LV.cst (Value.bool false), LV.int IntKind.u8 (0 : Int), LV.int IntKind.u16 (0 : Int), LV.int IntKind.u32 (0 : Int), LV.int IntKind.u32 (0 : Int), LV.cst (Value.slice none 0 0)] 33), (0, LO.lay [LV.sl 1 0 (List.length ls) (List.length ls), LV.int IntKind.i64 room] 47), (1, LO.arr (List.flatMap LisM.cells ls) 55), (2, LO.arr (Strip.pre s ++ l ++ Strip.spare s) 33)], nx := 4, orc := [LV.sl 2 (List.length (Strip.pre s)) n (LisM.wc x), LV.agg [LV.bool (Pkt.marker p), LV.int IntKind.u8 (Pkt.kind p), LV.int IntKind.u16 (Pkt.seq p), LV.int IntKind.u32 (Pkt.stamp p), LV.int IntKind.u32 (Pkt.source p), LV.raw (Value.slice (Pkt.db p) (Pkt.dn p) (Pkt.dc p))], LV.sl 2 (List.length (Strip.pre s)) n (LisM.wc x)] }) (Res.need [fun β ↦ (fun x j ↦ (List.flatMap LisM.cells ls)[j]?) β (k * 67 + 65) = some (den β (LV.sl 2 (List.length (Strip.pre s)) n (LisM.wc x)))] (Res.need [fun x ↦ (0 : Int) ≤ (0 : Int) ∧ (0 : Int) < (↑n : Int)] (Res.need [fun β ↦ E.rowAt β ((fun x j ↦ (Strip.pre s ++ l ++ Strip.spare s)[j]?) β) (List.length (Strip.pre s) + 0) [LV.bool (Pkt.marker p), LV.int IntKind.u8 (Pkt.kind p), LV.int IntKind.u16 (Pkt.seq p), LV.int IntKind.u32 (Pkt.stamp p), LV.int IntKind.u32 (Pkt.source p), LV.raw (Value.slice (Pkt.db p) (Pkt.dn p) (Pkt.dc p))]] (Res.new (Res.need [fun x ↦ Value.one (Value.slice (Pkt.db p) (Pkt.dn p) (Pkt.dc p)) = true] (Res.need [fun β ↦ (fun x j ↦ (List.flatMap LisM.cells ls)[j]?) β (k * 67 + 65) = some (den β (LV.sl 2 (List.length (Strip.pre s)) n (LisM.wc x)))] (Res.stop { stk := [It.reg [1, 1, 1, 1, 0] [5, 6, 7, 8], It.code [1, 1, 1, 1, 1]], fr := [(32, LV.sl 2 (List.length (Strip.pre s)) n (LisM.wc x)), (31, LV.ptr 1 (k * 67 + 65)), (30, LV.ptr 1 (k * 67)), (29, LV.ptr 1 (k * 67)), (28, LV.ptr 1 (k * 67)), (7, LV.ptr 4 0), (6, LV.ptr 1 (k * 67)), (5, LV.cst (Value.bool false)), (4, LV.ptr 3 0), (0, LV.ptr 0 0), (1, LV.int IntKind.i64 (↑k : Int))], H := [(4, LO.lay [LV.bool (Pkt.marker p), LV.int IntKind.u8 (Pkt.kind p), LV.int IntKind.u16 (Pkt.seq p), LV.int IntKind.u32 (Pkt.stamp p), LV.int IntKind.u32 (Pkt.source p), LV.raw (Value.slice (Pkt.db p) (Pkt.dn p) (Pkt.dc p))] 33), (3, LO.lay [LV.cst (Value.bool false), LV.int IntKind.u8 (0 : Int), LV.int IntKind.u16 (0 : Int), LV.int IntKind.u32 (0 : Int), LV.int IntKind.u32 (0 : Int), LV.cst (Value.slice none 0 0)] 33), (0, LO.lay [LV.sl 1 0 (List.length ls) (List.length ls), LV.int IntKind.i64 room] 47), (1, LO.arr (List.flatMap LisM.cells ls) 55), (2, LO.arr (Strip.pre s ++ l ++ Strip.spare s) 33)], nx := 5, orc := [] }))))))))) (by kernel_rfl) ?_
  have c65 : (ls.flatMap LisM.cells)[k * 67 + 65]? = some (.slice (some ⟨s.b, s.pre.length, none⟩) n x.wc) := by
    have := (hc.part (x.at_tail hx)).get (j := 0) rfl
    rw [hb, ← hn] at this
    rw [← this]; congr 1; omega
  have hl2 : l = p.cells ++ rest.flatMap Pkt.cells := by rw [hl, hx1]; rfl
  have hld : l.drop 6 = rest.flatMap Pkt.cells := by rw [hl2]; exact List.drop_left' rfl
  have hnr : n - 1 = rest.length := by rw [hn, hx1]; rfl
  have hn1 : 0 < n := by rw [hn, hx1]; simp
  have row : At (s.pre ++ l ++ s.spare) s.pre.length p.cells := by
    have h1 : At l 0 p.cells := by
      rw [hl2]
      have := At.mid (a := []) (m := p.cells) (b := rest.flatMap Pkt.cells)
      simpa using this
    simpa using (At.mid (a := s.pre) (m := l) (b := s.spare)).part h1
  have hle : 67 * k + 67 ≤ (ls.flatMap LisM.cells).length := by have := hc.le x.ne; rwa [x.len hx] at this
  refine ⟨⟨c65, trivial⟩, fun h => by simp at h; omega, fun _ => ⟨⟨c65, trivial⟩, ⟨by omega, trivial⟩, ⟨⟨row 0 _ rfl, row 1 _ rfl, row 2 _ rfl, row 3 _ rfl, row 4 _ rfl, row 5 _ rfl, trivial⟩, trivial⟩, fun b5 => ⟨⟨rfl, trivial⟩, ⟨c65, trivial⟩, fun _ => Go.call rfl rfl rfl rfl rfl fun w hs => ?_⟩⟩⟩
  refine (delete_spec (some ⟨s.b, s.pre.length, none⟩) n x.wc l hn1 (by omega) (F := pt bf (fwdBlock bl ls.length room) * (pt bl (.cells (ls.flatMap LisM.cells).toArray 55 (0, 0)) * (pt b4 (.cells noPkt.cells.toArray 33) * (pt b5 (.cells p.cells.toArray 33) * (stars (x.wait.map Pkt.hp) * (stars ((ls.map LisM.hp).eraseIdx k) * F)))))) (own_strip s ⟨rfl, h1, h2, h3, fun u hu => h4 u (hl ▸ hu)⟩ (hs.eq ?_))).mono fun e w' ⟨base', c', he1, he2⟩ => ⟨_, he1, ?_⟩
  · simp [satH, atom, denO, bk, mul_one, fwdBlock, denL, den, noPkt, Pkt.cells, star_assoc]; ac_rfl
  refine After.keep (γ := []) (H' := [(4, .lay [.bool p.marker, .int .u8 p.kind, .int .u16 p.seq, .int .u32 p.stamp, .int .u32 p.source, .raw (.slice p.db p.dn p.dc)] 33), (3, .lay [.cst (.bool false), .int .u8 0, .int .u16 0, .int .u32 0, .int .u32 0, .cst (.slice none 0 0)] 33), (0, .lay [.sl 1 0 ls.length ls.length, .int .i64 room] 47), (1, .arr (ls.flatMap LisM.cells) 55)])
    (F' := own 33 6 base' (n - 1) c' (l.drop 6) * (stars (x.wait.map Pkt.hp) * (stars ((ls.map LisM.hp).eraseIdx k) * F))) (lv := .raw (.slice base' (n - 1) c')) rfl rfl rfl rfl (he2.eq ?_) ?_
  · simp [satH, atom, denO, bk, mul_one, fwdBlock, denL, den, noPkt, Pkt.cells, star_assoc]; ac_rfl
  obtain ⟨x', hx'⟩ : ∃ x' : LisM, x' = { x with wait := rest, wb := base', wc := c' } := ⟨_, rfl⟩
  have hxo : x'.of.length = 16 := by rw [hx']; exact hx
  have e2 : setL (ls.flatMap LisM.cells) (k * 67 + 65) (denL [] [.raw (.slice base' (n - 1) c')]) = setL (ls.flatMap LisM.cells) (67 * k) x'.cells := by
    show setL (ls.flatMap LisM.cells) (k * 67 + 65) [.slice base' (n - 1) c'] = _
    rw [show k * 67 + 65 = 67 * k + (65 + 0) by omega, hc.setL (by rw [x.len hx]; simp) x.ne, x.set_tail x' hx (by rw [hx']) (by rw [hx']) 0 _ (by simp) (by rw [hx', hnr]; simp [setL])]
  refine Go.run mixed 300 [] rfl ?_
  refine Ok.eq (r' := Res.need [fun x ↦ Value.one (Value.slice base' (n - 1) c') = true, fun x ↦ k * 67 + 65 + 1 ≤ List.length (List.flatMap LisM.cells ls)] (Res.need [fun x ↦ Value.one (Value.slice (Pkt.db p) (Pkt.dn p) (Pkt.dc p)) = true] (Res.leave Leave.ret { stk := [It.code [1, 1, 1, 1, 1, 1]], fr := [(5, LV.cst (Value.bool true)), (7, LV.ptr 4 0), (6, LV.ptr 1 (k * 67)), (4, LV.ptr 3 0), (0, LV.ptr 0 0), (1, LV.int IntKind.i64 (↑k : Int))], H := [(4, LO.lay [LV.bool (Pkt.marker p), LV.int IntKind.u8 (Pkt.kind p), LV.int IntKind.u16 (Pkt.seq p), LV.int IntKind.u32 (Pkt.stamp p), LV.int IntKind.u32 (Pkt.source p), LV.raw (Value.slice (Pkt.db p) (Pkt.dn p) (Pkt.dc p))] 33), (3, LO.lay [LV.bool (Pkt.marker p), LV.int IntKind.u8 (Pkt.kind p), LV.int IntKind.u16 (Pkt.seq p), LV.int IntKind.u32 (Pkt.stamp p), LV.int IntKind.u32 (Pkt.source p), LV.raw (Value.slice (Pkt.db p) (Pkt.dn p) (Pkt.dc p))] 33), (0, LO.lay [LV.sl 1 0 (List.length ls) (List.length ls), LV.int IntKind.i64 room] 47), (1, LO.arr (setL (List.flatMap LisM.cells ls) (k * 67 + 65) (denL [] [LV.raw (Value.slice base' (n - 1) c')])) 55)], nx := 5, orc := [] }))) (by kernel_rfl) ?_
  refine ⟨⟨rfl, by omega, trivial⟩, ⟨rfl, trivial⟩, leave_okC (fun _ => nofun) rfl trivial fun w hs => ⟨x', by rw [hx'], rfl, ?_⟩⟩
  rw [← fwd_set (x := x) x' hwf hk hxo, ← e2]
  have hown : x'.hp = own 33 6 base' (n - 1) c' (l.drop 6) * stars (rest.map Pkt.hp) := by rw [hx', hld, hnr]; rfl
  have hst : stars (x.wait.map Pkt.hp) = p.hp * stars (rest.map Pkt.hp) := by rw [hx1]; rfl
  rw [hown]
  refine Sat.right (p := pt b4 (.cells p.cells.toArray 33)) (Sat.right (p := pt b5 (.cells p.cells.toArray 33)) (hs.eq ?_))
  rw [hst]
  simp [satH, atom, denO, bk, mul_one, fwdBlock, denL, den, noPkt, Pkt.cells, star_assoc]; ac_rfl

end Go.Proofs.Ytaobahddincaiaa
