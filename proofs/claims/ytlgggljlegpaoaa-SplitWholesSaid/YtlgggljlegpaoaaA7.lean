/- Layer 13: SplitSplits: the plain law (both splits say the same), and the walk. -/
import Derived.Test.YtlgggljlegpaoaaA6
namespace Go.Proofs.Ytlgggljlegpaoaa
open Go Go.E Go.Proofs

theorem pieces_eq {k1 k2 n dn : Nat} (h1 : dn ≤ k1 * n) (h2 : (k1 - 1) * n < dn) (h3 : dn ≤ k2 * n) (h4 : (k2 - 1) * n < dn) : k1 = k2 := by
  have a : ¬ k2 ≤ k1 - 1 := fun h => by have := Nat.mul_le_mul_right n h; omega
  have b : ¬ k1 ≤ k2 - 1 := fun h => by have := Nat.mul_le_mul_right n h; omega
  have c1 : 0 < k1 := by rcases Nat.eq_zero_or_pos k1 with h | h; (· subst h; simp at h1; omega); exact h
  have c2 : 0 < k2 := by rcases Nat.eq_zero_or_pos k2 with h | h; (· subst h; simp at h3; omega); exact h
  omega

def endFl (c : Chk) (k K : Nat) : Chk := let c1 := if k = 0 then c.or 2 else c; if k = K - 1 then c1.or 1 else c1
theorem ended_get {l : List Chk} {k : Nat} {c : Chk} (hk : l[k]? = some c) : (ended l)[k]? = some (endFl c k l.length) := by
  unfold ended endFl
  rw [List.getElem?_modify, List.getElem?_modify, hk]
  simp only [Option.map_eq_map, Option.map_some, Option.some.injEq]
  by_cases a : k = 0 <;> by_cases b : k = l.length - 1
  · rw [if_pos b.symm, if_pos a.symm, if_pos a, if_pos b]
  · rw [if_neg (Ne.symm b), if_pos a.symm, if_pos a, if_neg b]
  · rw [if_pos b.symm, if_neg (Ne.symm a), if_neg a, if_pos b]
  · rw [if_neg (Ne.symm b), if_neg (Ne.symm a), if_neg a, if_neg b]

def endF (f : Int) (p q : Bool) : Int := bif q then ibits .or .u8 (bif p then ibits .or .u8 f 2 else f) 1 else (bif p then ibits .or .u8 f 2 else f)
def refF (u p q : Bool) : Int := bif u then w8 ((bif q then w8 ((bif p then w8 (0 + 2) else 0) + 1) else (bif p then w8 (0 + 2) else 0)) + 4) else (bif q then w8 ((bif p then w8 (0 + 2) else 0) + 1) else (bif p then w8 (0 + 2) else 0))
theorem endF_ref (u p q : Bool) : endF (bif u then 4 else 0) p q = refF u p q := by cases u <;> cases p <;> cases q <;> decide
theorem endFl_flags (c : Chk) (k K : Nat) : (endFl c k K).flags = endF c.flags (decide (k = 0)) (decide (k = K - 1)) := by
  unfold endFl endF
  by_cases a : k = 0 <;> by_cases b : k = K - 1
  · rw [decide_eq_true a, decide_eq_true b, if_pos a, if_pos b]; rfl
  · rw [decide_eq_true a, decide_eq_false b, if_pos a, if_neg b]; rfl
  · rw [decide_eq_false a, decide_eq_true b, if_neg a, if_pos b]; rfl
  · rw [decide_eq_false a, decide_eq_false b, if_neg a, if_neg b]; rfl
theorem rflag_eq (m : Msg) (n k : Nat) : rflag m n k = refF m.unord (decide (k = 0)) (decide (m.dn ≤ (k + 1) * n)) := by
  unfold rflag rfl1 rfl0 refF
  by_cases a : k = 0 <;> by_cases b : m.dn ≤ (k + 1) * n <;> cases m.unord
  all_goals
    first | rw [decide_eq_true a] | rw [decide_eq_false a]
    first | rw [decide_eq_true b] | rw [decide_eq_false b]
    first | rw [if_pos a] | rw [if_neg a]
    first | rw [if_pos b] | rw [if_neg b]
    rfl

theorem pcs_get {m : Msg} {tsn f0 inn : Int} {n : Nat} {ads : List (Option Addr × Nat)} {k : Nat} (hk : k < ads.length) : ∃ ad, (pcs m tsn f0 inn n ads)[k]? = some (pc m tsn f0 inn n k ad) := by
  refine ⟨ads[k], ?_⟩
  simp [pcs, List.getElem?_eq_getElem hk]
theorem rpcs_get {m : Msg} {tsn inn : Int} {n K k : Nat} (hk : k < K) : (rpcs m tsn inn n K)[k]? = some (rpc m tsn inn n k) := by
  simp [rpcs, hk]

/-- The k-th chunk of both. -/
theorem split_alike (m : Msg) (tsn inn : Int) {n K k : Nat} (hk : k < K) (h1 : m.dn ≤ K * n) (h2 : (K - 1) * n < m.dn) (ad : Option Addr × Nat) : (endFl (pc m tsn (fl0 m) inn n k ad) k K).alike (rpc m tsn inn n k) := by
  have hlast : (m.dn ≤ (k + 1) * n) ↔ k = K - 1 := by
    constructor
    · intro h
      have : ¬ k + 1 ≤ K - 1 := fun hh => by have := Nat.mul_le_mul_right n hh; omega
      omega
    · intro h
      rw [show k + 1 = K by omega]; exact h1
  have hfl : (endFl (pc m tsn (fl0 m) inn n k ad) k K).flags = rflag m n k := by
    rw [endFl_flags, rflag_eq, show decide (m.dn ≤ (k + 1) * n) = decide (k = K - 1) from decide_eq_decide.2 hlast]
    have : (pc m tsn (fl0 m) inn n k ad).flags = (bif m.unord then 4 else 0) := by show fl0 m = _; unfold fl0; cases m.unord <;> rfl
    rw [this, endF_ref]
  have e : ∀ {γ : Type} (g : Chk → γ), (∀ c x, g (c.or x) = g c) → g (endFl (pc m tsn (fl0 m) inn n k ad) k K) = g (pc m tsn (fl0 m) inn n k ad) := fun g hg => by
    unfold endFl
    by_cases a : k = 0 <;> by_cases b : k = K - 1
    · rw [if_pos a, if_pos b, hg, hg]
    · rw [if_pos a, if_neg b, hg]
    · rw [if_neg a, if_pos b, hg]
    · rw [if_neg a, if_neg b]
  exact ⟨e Chk.kind fun _ _ => rfl, hfl, e Chk.a fun _ _ => rfl, e Chk.b fun _ _ => rfl, e Chk.out fun _ _ => rfl, e Chk.inn fun _ _ => rfl, e Chk.ppid fun _ _ => rfl, e Chk.bytes fun _ _ => rfl⟩

theorem pc_ones (m : Msg) (tsn f0 inn : Int) (n k : Nat) (ad : Option Addr × Nat) (K : Nat) : (endFl (pc m tsn f0 inn n k ad) k K).plain ∧ (endFl (pc m tsn f0 inn n k ad) k K).ones ∧ (endFl (pc m tsn f0 inn n k ad) k K).dn = (piece m n k).length := by
  unfold endFl
  by_cases a : k = 0 <;> by_cases b : k = K - 1
  · rw [if_pos a, if_pos b]; exact ⟨⟨rfl, rfl, rfl, rfl⟩, ⟨rfl, rfl, rfl, rfl⟩, rfl⟩
  · rw [if_pos a, if_neg b]; exact ⟨⟨rfl, rfl, rfl, rfl⟩, ⟨rfl, rfl, rfl, rfl⟩, rfl⟩
  · rw [if_neg a, if_pos b]; exact ⟨⟨rfl, rfl, rfl, rfl⟩, ⟨rfl, rfl, rfl, rfl⟩, rfl⟩
  · rw [if_neg a, if_neg b]; exact ⟨⟨rfl, rfl, rfl, rfl⟩, ⟨rfl, rfl, rfl, rfl⟩, rfl⟩

/-- The k-th chunk of 'Split'. -/
theorem splits_get {m : Msg} {tsn ssn : Int} {n : Nat} {ads : List (Option Addr × Nat)} {k : Nat} (hk : k < ads.length) : ∃ ad, (splits m tsn ssn n ads)[k]? = some (endFl (pc m tsn (fl0 m) (in0 m ssn) n k ad) k ads.length) := by
  obtain ⟨ad, h⟩ := pcs_get (m := m) (tsn := tsn) (f0 := fl0 m) (inn := in0 m ssn) (n := n) hk
  refine ⟨ad, ?_⟩
  have := ended_get h
  rwa [pcs_length] at this
theorem splits_length (m : Msg) (tsn ssn : Int) (n : Nat) (ads : List (Option Addr × Nat)) : (splits m tsn ssn n ads).length = ads.length := by rw [splits, ended_length, pcs_length]
theorem getD_of {α : Type} {l : List α} {k : Nat} {x d : α} (h : l[k]? = some x) : l.getD k d = x := by simp [List.getD, h]
theorem piece_le (m : Msg) (n k : Nat) : (piece m n k).length ≤ n := by simp [piece]; omega

structure Msg.In (w : World) (m : Msg) : Prop extends Msg.Ok w m where
  cap : m.dn ≤ m.dc
  big : m.dc ≤ 9223372036854775807

theorem splits_ok {w0 w : World} {m : Msg} {tsn ssn : Int} {n : Nat} {ads : List (Option Addr × Nat)} {F : HP} (hn : n ≤ 1172) (h : Sat w0 (stars ((splits m tsn ssn n ads).map Chk.own) * F) w) : ∀ c ∈ splits m tsn ssn n ads, c.Ok w := by
  refine oks_of_stars (fun c hc => ?_) h
  obtain ⟨k, hk⟩ := List.mem_iff_getElem?.1 hc
  have hlt : k < ads.length := by have := (List.getElem?_eq_some_iff.1 hk).1; rwa [splits_length] at this
  obtain ⟨ad, h2⟩ := splits_get (m := m) (tsn := tsn) (ssn := ssn) (n := n) hlt
  rw [h2] at hk
  cases hk
  obtain ⟨p1, p2, p3⟩ := pc_ones m tsn (fl0 m) (in0 m ssn) n k ad ads.length
  exact ⟨p2, by rw [p3]; have := piece_le m n k; omega⟩
theorem splits_plain {m : Msg} {tsn ssn : Int} {n : Nat} {ads : List (Option Addr × Nat)} : ∀ c ∈ splits m tsn ssn n ads, c.plain := fun c hc => by
  obtain ⟨k, hk⟩ := List.mem_iff_getElem?.1 hc
  have hlt : k < ads.length := by have := (List.getElem?_eq_some_iff.1 hk).1; rwa [splits_length] at this
  obtain ⟨ad, h2⟩ := splits_get (m := m) (tsn := tsn) (ssn := ssn) (n := n) hlt
  rw [h2] at hk
  cases hk
  exact (pc_ones m tsn (fl0 m) (in0 m ssn) n k ad ads.length).1

theorem piece_at (m : Msg) (n k : Nat) : At (m.bytes.map (Value.int .u8)) (k * n) ((piece m n k).map (Value.int .u8)) := fun j u hj => by
  have hlt := (List.getElem?_eq_some_iff.1 hj).1
  have hle := piece_le m n k
  simp only [List.length_map] at hlt
  simp only [piece, List.getElem?_map, List.getElem?_take, List.getElem?_drop] at hj ⊢
  rwa [if_pos (by omega)] at hj

theorem rpc_ok {w : World} {m : Msg} (hm : m.Ok w) (tsn inn : Int) (n k : Nat) (hn : n ≤ 1172) : (rpc m tsn inn n k).Ok w := by
  refine ⟨⟨rfl, rfl, rfl, rfl⟩, hm.rd.part (piece_at m n k), rfl, fun h => ?_, by have := piece_le m n k; show (piece m n k).length ≤ 2000; omega⟩
  have h0 : m.db = none := by simpa [rpc] using h
  have := hm.nil h0
  have hb : m.bytes.length = 0 := hm.len.trans this
  show (piece m n k).length = 0
  simp [piece, hb]

set_option maxHeartbeats 1000000 in
set_option maxRecDepth 100000 in
theorem splits_walk (m : Msg) (tsn ssn most : Int) (w : World) (hm : m.In w) : Calls Try.prog 3 #[m.val, .int .u32 tsn, .int .u16 ssn, .int .i64 most] w fun e w' => e = .returned (.bool true) ∧ Sat w 1 w' := by
  refine Calls.enter (cfg := cfg3 w) (β := []) (H := []) (F := 1) (l := [m.lv, .int .u32 tsn, .int .u16 ssn, .int .i64 most]) Try.func3 rfl rfl (Nat.le_of_ble_eq_true rfl) rfl ((Sat.refl w).eq (one_mul 1).symm) ?_
  refine Go.run mixed 300 [] rfl ?_
  refine Ok.eq (r' := Res.need [fun x ↦ Value.one (Value.slice (Msg.db m) (Msg.dn m) (Msg.dc m)) = true] (Res.new (Res.stop { stk := [It.reg [1, 0] [0, 1], It.code [1, 1]], fr := [(8, LV.cst (Value.bool false)), (4, LV.ptr 0 0), (0, LV.agg [LV.int IntKind.u16 (Msg.stream m), LV.bool (Msg.unord m), LV.int IntKind.u32 (Msg.ppid m), LV.raw (Value.slice (Msg.db m) (Msg.dn m) (Msg.dc m))]), (1, LV.int IntKind.u32 tsn), (2, LV.int IntKind.u16 ssn), (3, LV.int IntKind.i64 most)], H := [(0, LO.lay [LV.int IntKind.u16 (Msg.stream m), LV.bool (Msg.unord m), LV.int IntKind.u32 (Msg.ppid m), LV.raw (Value.slice (Msg.db m) (Msg.dn m) (Msg.dc m))] 26)], nx := 1, orc := [] }))) (by kernel_rfl) ?_
  refine ⟨⟨rfl, trivial⟩, fun b1 => fun _ => Go.callT rfl rfl rfl rfl rfl rfl fun w1 hs => (awake_spec w1).mono fun e w2 he => ⟨.bool true, 1, he.1, rfl, he.2, ?_⟩⟩
  refine Go.run mixed 300 [] rfl ?_
  refine Ok.eq (r' := Res.ite (decide ((↑(Msg.dn m) : Int) > (2000 : Int)) && decide ((↑(Msg.dn m) : Int) ≤ (16384 : Int))) (Res.leave Leave.ret { stk := [It.code [1, 1, 0, 1, 0, 1], It.code [1, 1, 1]], fr := [(8, LV.bool true), (9, LV.bool true), (4, LV.ptr 0 0), (0, LV.agg [LV.int IntKind.u16 (Msg.stream m), LV.bool (Msg.unord m), LV.int IntKind.u32 (Msg.ppid m), LV.raw (Value.slice (Msg.db m) (Msg.dn m) (Msg.dc m))]), (1, LV.int IntKind.u32 tsn), (2, LV.int IntKind.u16 ssn), (3, LV.int IntKind.i64 most)], H := [(0, LO.lay [LV.int IntKind.u16 (Msg.stream m), LV.bool (Msg.unord m), LV.int IntKind.u32 (Msg.ppid m), LV.raw (Value.slice (Msg.db m) (Msg.dn m) (Msg.dc m))] 26)], nx := 1, orc := [] }) (Res.stop { stk := [It.reg [1, 1, 1, 0] [4, 5, 6, 7, 8, 9], It.code [1, 1, 1, 1]], fr := [(30, LV.int IntKind.i64 most), (29, LV.int IntKind.u16 ssn), (28, LV.int IntKind.u32 tsn), (27, LV.agg [LV.int IntKind.u16 (Msg.stream m), LV.bool (Msg.unord m), LV.int IntKind.u32 (Msg.ppid m), LV.raw (Value.slice (Msg.db m) (Msg.dn m) (Msg.dc m))]), (9, LV.bool true), (8, LV.cst (Value.bool false)), (4, LV.ptr 0 0), (0, LV.agg [LV.int IntKind.u16 (Msg.stream m), LV.bool (Msg.unord m), LV.int IntKind.u32 (Msg.ppid m), LV.raw (Value.slice (Msg.db m) (Msg.dn m) (Msg.dc m))]), (1, LV.int IntKind.u32 tsn), (2, LV.int IntKind.u16 ssn), (3, LV.int IntKind.i64 most)], H := [(0, LO.lay [LV.int IntKind.u16 (Msg.stream m), LV.bool (Msg.unord m), LV.int IntKind.u32 (Msg.ppid m), LV.raw (Value.slice (Msg.db m) (Msg.dn m) (Msg.dc m))] 26)], nx := 1, orc := [] })) (by kernel_rfl) ?_
  refine ⟨fun _ => leave_ok (fun _ => nofun) rfl fun w hs => ⟨rfl, hs.one⟩, fun hsm => ?_⟩
  refine fun _ => Go.callT rfl rfl rfl rfl rfl rfl fun w1 hs => ?_
  have hsp := split_spec m tsn ssn most w1 (hm.rd.sat hs) hm.len hm.nil hm.cap
  refine hsp.mono fun e w2 he => ?_
  unfold SplitR at he
  by_cases h1 : m.dn = 0 ∨ most < 1 ∨ most > 1172
  · rw [if_pos h1] at he
    refine ⟨.tup [.cst (.slice none 0 0), .int .i64 1], 1, he.1, rfl, he.2, ?_⟩
    refine Go.run mixed 300 [] rfl ?_
    refine Ok.eq (r' := Res.stop { stk := [It.reg [1, 1, 1, 1, 0] [4, 5, 6, 7, 8, 9], It.code [1, 1, 1, 1, 1]], fr := [(38, LV.int IntKind.i64 most), (37, LV.int IntKind.u16 ssn), (36, LV.int IntKind.u32 tsn), (35, LV.agg [LV.int IntKind.u16 (Msg.stream m), LV.bool (Msg.unord m), LV.int IntKind.u32 (Msg.ppid m), LV.raw (Value.slice (Msg.db m) (Msg.dn m) (Msg.dc m))]), (11, LV.int IntKind.i64 (1 : Int)), (10, LV.cst (Value.slice none 0 0)), (9, LV.bool true), (8, LV.cst (Value.bool false)), (4, LV.ptr 0 0), (0, LV.agg [LV.int IntKind.u16 (Msg.stream m), LV.bool (Msg.unord m), LV.int IntKind.u32 (Msg.ppid m), LV.raw (Value.slice (Msg.db m) (Msg.dn m) (Msg.dc m))]), (1, LV.int IntKind.u32 tsn), (2, LV.int IntKind.u16 ssn), (3, LV.int IntKind.i64 most)], H := [(0, LO.lay [LV.int IntKind.u16 (Msg.stream m), LV.bool (Msg.unord m), LV.int IntKind.u32 (Msg.ppid m), LV.raw (Value.slice (Msg.db m) (Msg.dn m) (Msg.dc m))] 26)], nx := 1, orc := [] }) (by kernel_rfl) ?_
    refine fun _ => Go.callT rfl rfl rfl rfl rfl rfl fun w3 hs => ?_
    have hr := rsplit_spec m tsn ssn most w3 hm.len hm.cap hm.big
    refine hr.mono fun e w4 he => ?_
    unfold RSplitR at he
    rw [if_pos h1] at he
    refine ⟨.tup [.cst (.slice none 0 0), .int .i64 1], 1, he.1, rfl, he.2, ?_⟩
    refine Go.run mixed 300 [] rfl ?_
    refine Ok.eq (r' := Res.ite true (Res.stop { stk := [It.reg [1, 1, 1, 1, 1, 0] [9, 10, 11], It.code [1, 1, 1, 1, 1, 1]], fr := [(48, LV.cst (Value.bool true)), (50, LV.cst (Value.slice none 0 0)), (49, LV.cst (Value.slice none 0 0)), (47, LV.bool true), (43, LV.bool true), (42, LV.bool true), (13, LV.int IntKind.i64 (1 : Int)), (12, LV.cst (Value.slice none 0 0)), (11, LV.int IntKind.i64 (1 : Int)), (10, LV.cst (Value.slice none 0 0)), (9, LV.bool true), (8, LV.cst (Value.bool false)), (4, LV.ptr 0 0), (0, LV.agg [LV.int IntKind.u16 (Msg.stream m), LV.bool (Msg.unord m), LV.int IntKind.u32 (Msg.ppid m), LV.raw (Value.slice (Msg.db m) (Msg.dn m) (Msg.dc m))]), (1, LV.int IntKind.u32 tsn), (2, LV.int IntKind.u16 ssn), (3, LV.int IntKind.i64 most)], H := [(0, LO.lay [LV.int IntKind.u16 (Msg.stream m), LV.bool (Msg.unord m), LV.int IntKind.u32 (Msg.ppid m), LV.raw (Value.slice (Msg.db m) (Msg.dn m) (Msg.dc m))] 26)], nx := 1, orc := [] }) (Res.leave Leave.ret { stk := [It.code [1, 1, 1, 1, 1, 1]], fr := [(8, LV.cst (Value.bool false)), (13, LV.int IntKind.i64 (1 : Int)), (12, LV.cst (Value.slice none 0 0)), (11, LV.int IntKind.i64 (1 : Int)), (10, LV.cst (Value.slice none 0 0)), (9, LV.bool true), (4, LV.ptr 0 0), (0, LV.agg [LV.int IntKind.u16 (Msg.stream m), LV.bool (Msg.unord m), LV.int IntKind.u32 (Msg.ppid m), LV.raw (Value.slice (Msg.db m) (Msg.dn m) (Msg.dc m))]), (1, LV.int IntKind.u32 tsn), (2, LV.int IntKind.u16 ssn), (3, LV.int IntKind.i64 most)], H := [(0, LO.lay [LV.int IntKind.u16 (Msg.stream m), LV.bool (Msg.unord m), LV.int IntKind.u32 (Msg.ppid m), LV.raw (Value.slice (Msg.db m) (Msg.dn m) (Msg.dc m))] 26)], nx := 1, orc := [] })) (by kernel_rfl) ?_
    refine ⟨fun _ => fun _ => ?_, fun h => by simp at h⟩
    refine Go.callT rfl rfl rfl rfl rfl rfl fun w5 hs => ?_
    have hc := sameCs_spec none none 0 0 0 [] [] w5 rfl rfl (by omega) (Rd.nil _ _) (Rd.nil _ _) (fun k hk => by omega)
    refine hc.mono fun e w6 he => ⟨.bool true, 1, he.1, rfl, he.2, ?_⟩
    refine Go.run mixed 300 [] rfl ?_
    refine Ok.eq (r' := Res.leave Leave.ret { stk := [It.code [1, 1, 1, 1, 1, 1]], fr := [(8, LV.bool true), (13, LV.int IntKind.i64 (1 : Int)), (12, LV.cst (Value.slice none 0 0)), (11, LV.int IntKind.i64 (1 : Int)), (10, LV.cst (Value.slice none 0 0)), (9, LV.bool true), (4, LV.ptr 0 0), (0, LV.agg [LV.int IntKind.u16 (Msg.stream m), LV.bool (Msg.unord m), LV.int IntKind.u32 (Msg.ppid m), LV.raw (Value.slice (Msg.db m) (Msg.dn m) (Msg.dc m))]), (1, LV.int IntKind.u32 tsn), (2, LV.int IntKind.u16 ssn), (3, LV.int IntKind.i64 most)], H := [(0, LO.lay [LV.int IntKind.u16 (Msg.stream m), LV.bool (Msg.unord m), LV.int IntKind.u32 (Msg.ppid m), LV.raw (Value.slice (Msg.db m) (Msg.dn m) (Msg.dc m))] 26)], nx := 1, orc := [] }) (by kernel_rfl) ?_
    exact leave_ok (fun _ => nofun) rfl fun w hs => ⟨rfl, hs.one⟩
  rw [if_neg h1] at he
  by_cases h2 : m.dn > 16384
  · rw [if_pos h2] at he
    refine ⟨.tup [.cst (.slice none 0 0), .int .i64 10], 1, he.1, rfl, he.2, ?_⟩
    refine Go.run mixed 300 [] rfl ?_
    refine Ok.eq (r' := Res.stop { stk := [It.reg [1, 1, 1, 1, 0] [4, 5, 6, 7, 8, 9], It.code [1, 1, 1, 1, 1]], fr := [(38, LV.int IntKind.i64 most), (37, LV.int IntKind.u16 ssn), (36, LV.int IntKind.u32 tsn), (35, LV.agg [LV.int IntKind.u16 (Msg.stream m), LV.bool (Msg.unord m), LV.int IntKind.u32 (Msg.ppid m), LV.raw (Value.slice (Msg.db m) (Msg.dn m) (Msg.dc m))]), (11, LV.int IntKind.i64 (10 : Int)), (10, LV.cst (Value.slice none 0 0)), (9, LV.bool true), (8, LV.cst (Value.bool false)), (4, LV.ptr 0 0), (0, LV.agg [LV.int IntKind.u16 (Msg.stream m), LV.bool (Msg.unord m), LV.int IntKind.u32 (Msg.ppid m), LV.raw (Value.slice (Msg.db m) (Msg.dn m) (Msg.dc m))]), (1, LV.int IntKind.u32 tsn), (2, LV.int IntKind.u16 ssn), (3, LV.int IntKind.i64 most)], H := [(0, LO.lay [LV.int IntKind.u16 (Msg.stream m), LV.bool (Msg.unord m), LV.int IntKind.u32 (Msg.ppid m), LV.raw (Value.slice (Msg.db m) (Msg.dn m) (Msg.dc m))] 26)], nx := 1, orc := [] }) (by kernel_rfl) ?_
    refine fun _ => Go.callT rfl rfl rfl rfl rfl rfl fun w3 hs => ?_
    have hr := rsplit_spec m tsn ssn most w3 hm.len hm.cap hm.big
    refine hr.mono fun e w4 he => ?_
    unfold RSplitR at he
    rw [if_neg h1, if_pos h2] at he
    refine ⟨.tup [.cst (.slice none 0 0), .int .i64 10], 1, he.1, rfl, he.2, ?_⟩
    refine Go.run mixed 300 [] rfl ?_
    refine Ok.eq (r' := Res.ite true (Res.stop { stk := [It.reg [1, 1, 1, 1, 1, 0] [9, 10, 11], It.code [1, 1, 1, 1, 1, 1]], fr := [(48, LV.cst (Value.bool true)), (50, LV.cst (Value.slice none 0 0)), (49, LV.cst (Value.slice none 0 0)), (47, LV.bool true), (43, LV.bool true), (42, LV.bool true), (13, LV.int IntKind.i64 (10 : Int)), (12, LV.cst (Value.slice none 0 0)), (11, LV.int IntKind.i64 (10 : Int)), (10, LV.cst (Value.slice none 0 0)), (9, LV.bool true), (8, LV.cst (Value.bool false)), (4, LV.ptr 0 0), (0, LV.agg [LV.int IntKind.u16 (Msg.stream m), LV.bool (Msg.unord m), LV.int IntKind.u32 (Msg.ppid m), LV.raw (Value.slice (Msg.db m) (Msg.dn m) (Msg.dc m))]), (1, LV.int IntKind.u32 tsn), (2, LV.int IntKind.u16 ssn), (3, LV.int IntKind.i64 most)], H := [(0, LO.lay [LV.int IntKind.u16 (Msg.stream m), LV.bool (Msg.unord m), LV.int IntKind.u32 (Msg.ppid m), LV.raw (Value.slice (Msg.db m) (Msg.dn m) (Msg.dc m))] 26)], nx := 1, orc := [] }) (Res.leave Leave.ret { stk := [It.code [1, 1, 1, 1, 1, 1]], fr := [(8, LV.cst (Value.bool false)), (13, LV.int IntKind.i64 (10 : Int)), (12, LV.cst (Value.slice none 0 0)), (11, LV.int IntKind.i64 (10 : Int)), (10, LV.cst (Value.slice none 0 0)), (9, LV.bool true), (4, LV.ptr 0 0), (0, LV.agg [LV.int IntKind.u16 (Msg.stream m), LV.bool (Msg.unord m), LV.int IntKind.u32 (Msg.ppid m), LV.raw (Value.slice (Msg.db m) (Msg.dn m) (Msg.dc m))]), (1, LV.int IntKind.u32 tsn), (2, LV.int IntKind.u16 ssn), (3, LV.int IntKind.i64 most)], H := [(0, LO.lay [LV.int IntKind.u16 (Msg.stream m), LV.bool (Msg.unord m), LV.int IntKind.u32 (Msg.ppid m), LV.raw (Value.slice (Msg.db m) (Msg.dn m) (Msg.dc m))] 26)], nx := 1, orc := [] })) (by kernel_rfl) ?_
    refine ⟨fun _ => fun _ => ?_, fun h => by simp at h⟩
    refine Go.callT rfl rfl rfl rfl rfl rfl fun w5 hs => ?_
    have hc := sameCs_spec none none 0 0 0 [] [] w5 rfl rfl (by omega) (Rd.nil _ _) (Rd.nil _ _) (fun k hk => by omega)
    refine hc.mono fun e w6 he => ⟨.bool true, 1, he.1, rfl, he.2, ?_⟩
    refine Go.run mixed 300 [] rfl ?_
    refine Ok.eq (r' := Res.leave Leave.ret { stk := [It.code [1, 1, 1, 1, 1, 1]], fr := [(8, LV.bool true), (13, LV.int IntKind.i64 (10 : Int)), (12, LV.cst (Value.slice none 0 0)), (11, LV.int IntKind.i64 (10 : Int)), (10, LV.cst (Value.slice none 0 0)), (9, LV.bool true), (4, LV.ptr 0 0), (0, LV.agg [LV.int IntKind.u16 (Msg.stream m), LV.bool (Msg.unord m), LV.int IntKind.u32 (Msg.ppid m), LV.raw (Value.slice (Msg.db m) (Msg.dn m) (Msg.dc m))]), (1, LV.int IntKind.u32 tsn), (2, LV.int IntKind.u16 ssn), (3, LV.int IntKind.i64 most)], H := [(0, LO.lay [LV.int IntKind.u16 (Msg.stream m), LV.bool (Msg.unord m), LV.int IntKind.u32 (Msg.ppid m), LV.raw (Value.slice (Msg.db m) (Msg.dn m) (Msg.dc m))] 26)], nx := 1, orc := [] }) (by kernel_rfl) ?_
    exact leave_ok (fun _ => nofun) rfl fun w hs => ⟨rfl, hs.one⟩
  rw [if_neg h2] at he
  obtain ⟨ads, base, c, g1, g2, g3, he1, he2⟩ := he
  obtain ⟨n, rfl⟩ : ∃ n : Nat, most = (n : Int) := ⟨most.toNat, by omega⟩
  rw [show (n : Int).toNat = n by omega] at g2 g3 he2
  have hn : n ≤ 1172 := by omega
  have hn1 : 1 ≤ n := by omega
  refine ⟨.tup [.raw (.slice base ads.length c), .int .i64 0], _, he1, rfl, he2, ?_⟩
  refine Go.run mixed 300 [] rfl ?_
  refine Ok.eq (r' := Res.stop { stk := [It.reg [1, 1, 1, 1, 0] [4, 5, 6, 7, 8, 9], It.code [1, 1, 1, 1, 1]], fr := [(38, LV.int IntKind.i64 (↑n : Int)), (37, LV.int IntKind.u16 ssn), (36, LV.int IntKind.u32 tsn), (35, LV.agg [LV.int IntKind.u16 (Msg.stream m), LV.bool (Msg.unord m), LV.int IntKind.u32 (Msg.ppid m), LV.raw (Value.slice (Msg.db m) (Msg.dn m) (Msg.dc m))]), (11, LV.int IntKind.i64 (0 : Int)), (10, LV.raw (Value.slice base (List.length ads) c)), (9, LV.bool true), (8, LV.cst (Value.bool false)), (4, LV.ptr 0 0), (0, LV.agg [LV.int IntKind.u16 (Msg.stream m), LV.bool (Msg.unord m), LV.int IntKind.u32 (Msg.ppid m), LV.raw (Value.slice (Msg.db m) (Msg.dn m) (Msg.dc m))]), (1, LV.int IntKind.u32 tsn), (2, LV.int IntKind.u16 ssn), (3, LV.int IntKind.i64 (↑n : Int))], H := [(0, LO.lay [LV.int IntKind.u16 (Msg.stream m), LV.bool (Msg.unord m), LV.int IntKind.u32 (Msg.ppid m), LV.raw (Value.slice (Msg.db m) (Msg.dn m) (Msg.dc m))] 26)], nx := 1, orc := [] }) (by kernel_rfl) ?_
  refine fun _ => Go.callT rfl rfl rfl rfl rfl rfl fun w3 hs => ?_
  have hr := rsplit_spec m tsn ssn n w3 hm.len hm.cap hm.big
  refine hr.mono fun e w4 he => ?_
  unfold RSplitR at he
  rw [if_neg h1, if_neg h2] at he
  obtain ⟨K, base2, c2, f1, f2, f3, he3, he4⟩ := he
  rw [show (n : Int).toNat = n by omega] at f2 f3 he4
  obtain rfl : K = ads.length := pieces_eq f2 f3 g2 g3
  refine ⟨.tup [.raw (.slice base2 ads.length c2), .int .i64 0], _, he3, rfl, he4, ?_⟩
  refine Go.run mixed 300 [] rfl ?_
  refine Ok.eq (r' := Res.ite true (Res.stop { stk := [It.reg [1, 1, 1, 1, 1, 0] [9, 10, 11], It.code [1, 1, 1, 1, 1, 1]], fr := [(48, LV.cst (Value.bool true)), (50, LV.raw (Value.slice base2 (List.length ads) c2)), (49, LV.raw (Value.slice base (List.length ads) c)), (47, LV.bool true), (43, LV.bool true), (42, LV.bool true), (13, LV.int IntKind.i64 (0 : Int)), (12, LV.raw (Value.slice base2 (List.length ads) c2)), (11, LV.int IntKind.i64 (0 : Int)), (10, LV.raw (Value.slice base (List.length ads) c)), (9, LV.bool true), (8, LV.cst (Value.bool false)), (4, LV.ptr 0 0), (0, LV.agg [LV.int IntKind.u16 (Msg.stream m), LV.bool (Msg.unord m), LV.int IntKind.u32 (Msg.ppid m), LV.raw (Value.slice (Msg.db m) (Msg.dn m) (Msg.dc m))]), (1, LV.int IntKind.u32 tsn), (2, LV.int IntKind.u16 ssn), (3, LV.int IntKind.i64 (↑n : Int))], H := [(0, LO.lay [LV.int IntKind.u16 (Msg.stream m), LV.bool (Msg.unord m), LV.int IntKind.u32 (Msg.ppid m), LV.raw (Value.slice (Msg.db m) (Msg.dn m) (Msg.dc m))] 26)], nx := 1, orc := [] }) (Res.leave Leave.ret { stk := [It.code [1, 1, 1, 1, 1, 1]], fr := [(8, LV.cst (Value.bool false)), (13, LV.int IntKind.i64 (0 : Int)), (12, LV.raw (Value.slice base2 (List.length ads) c2)), (11, LV.int IntKind.i64 (0 : Int)), (10, LV.raw (Value.slice base (List.length ads) c)), (9, LV.bool true), (4, LV.ptr 0 0), (0, LV.agg [LV.int IntKind.u16 (Msg.stream m), LV.bool (Msg.unord m), LV.int IntKind.u32 (Msg.ppid m), LV.raw (Value.slice (Msg.db m) (Msg.dn m) (Msg.dc m))]), (1, LV.int IntKind.u32 tsn), (2, LV.int IntKind.u16 ssn), (3, LV.int IntKind.i64 (↑n : Int))], H := [(0, LO.lay [LV.int IntKind.u16 (Msg.stream m), LV.bool (Msg.unord m), LV.int IntKind.u32 (Msg.ppid m), LV.raw (Value.slice (Msg.db m) (Msg.dn m) (Msg.dc m))] 26)], nx := 1, orc := [] })) (by kernel_rfl) ?_
  refine ⟨fun _ => fun _ => ?_, fun h => by simp at h⟩
  refine Go.callT rfl rfl rfl rfl rfl rfl fun w5 hs => ?_
  have hs1 : Sat w (own 39 12 base ads.length c ((splits m tsn ssn n ads).flatMap Chk.cells) * (stars ((splits m tsn ssn n ads).map Chk.own) * (own 39 12 base2 ads.length c2 ((rpcs m tsn (in0 m ssn) n ads.length).flatMap Chk.cells) * satH w [b1] (mH m)))) w5 := by
    refine hs.eq ?_
    simp only [mul_one, one_mul, mH]
    ac_rfl
  have hok := splits_ok hn (hs1.right)
  have hmo : m.Ok w5 := hm.toOk.sat hs
  have hc := sameCs_spec base base2 ads.length c c2 (splits m tsn ssn n ads) (rpcs m tsn (in0 m ssn) n ads.length) w5 (splits_length _ _ _ _ _) (rpcs_length _ _ _ _ _) (by
      have := Nat.le_mul_of_pos_right (ads.length - 1) hn1; omega) (Rd.of_own hs1) (Rd.of_own hs1.right.right) (fun k hk => by
    obtain ⟨ad, h3⟩ := splits_get (m := m) (tsn := tsn) (ssn := ssn) (n := n) hk
    have h4 := rpcs_get (m := m) (tsn := tsn) (inn := in0 m ssn) (n := n) hk
    have hmem := List.mem_of_getElem? h3
    rw [getD_of h3, getD_of h4]
    exact ⟨splits_plain _ hmem, ⟨rfl, rfl, rfl, rfl⟩, hok _ hmem, rpc_ok hmo _ _ _ _ hn, split_alike m tsn (in0 m ssn) hk g2 g3 ad⟩)
  refine hc.mono fun e w6 he => ⟨.bool true, 1, he.1, rfl, he.2, ?_⟩
  refine Go.run mixed 300 [] rfl ?_
  refine Ok.eq (r' := Res.leave Leave.ret { stk := [It.code [1, 1, 1, 1, 1, 1]], fr := [(8, LV.bool true), (13, LV.int IntKind.i64 (0 : Int)), (12, LV.raw (Value.slice base2 (List.length ads) c2)), (11, LV.int IntKind.i64 (0 : Int)), (10, LV.raw (Value.slice base (List.length ads) c)), (9, LV.bool true), (4, LV.ptr 0 0), (0, LV.agg [LV.int IntKind.u16 (Msg.stream m), LV.bool (Msg.unord m), LV.int IntKind.u32 (Msg.ppid m), LV.raw (Value.slice (Msg.db m) (Msg.dn m) (Msg.dc m))]), (1, LV.int IntKind.u32 tsn), (2, LV.int IntKind.u16 ssn), (3, LV.int IntKind.i64 (↑n : Int))], H := [(0, LO.lay [LV.int IntKind.u16 (Msg.stream m), LV.bool (Msg.unord m), LV.int IntKind.u32 (Msg.ppid m), LV.raw (Value.slice (Msg.db m) (Msg.dn m) (Msg.dc m))] 26)], nx := 1, orc := [] }) (by kernel_rfl) ?_
  exact leave_ok (fun _ => nofun) rfl fun w hs => ⟨rfl, hs.one⟩

end Go.Proofs.Ytlgggljlegpaoaa
