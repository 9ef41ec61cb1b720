/- Layer 13: 'Follows' and 'Whole', walked. -/
import Derived.Test.YtlgggljlegpaoaaA2
namespace Go.Proofs.Ytlgggljlegpaoaa
open Go Go.E Go.Proofs

def Chk.lv (c : Chk) : LV := .agg [.int .u8 c.kind, .int .u8 c.flags, .int .u32 c.a, .int .u32 c.b, .int .u16 c.out, .int .u16 c.inn, .int .u32 c.ppid, .raw c.r7, .raw c.r8, .raw c.r9, .raw c.r10, .raw (.slice c.db c.dn c.dc)]
theorem Chk.den_lv (c : Chk) (β : List Nat) : den β c.lv = c.val := rfl
def Chk.ones (c : Chk) : Prop := Value.one c.r7 = true ∧ Value.one c.r8 = true ∧ Value.one c.r9 = true ∧ Value.one c.r10 = true

def band (a b : Int) : Int := ibits .and .u8 a b
def follows (a b : Chk) : Bool :=
  (a.kind == 0 && b.kind == 0) && (a.out == b.out && a.inn == b.inn && a.ppid == b.ppid && band (ibits .xor .u8 a.flags b.flags) 4 == 0) && b.a == IntKind.u32.wrap (a.a + 1) && band a.flags 1 == 0 && band b.flags 2 == 0

set_option maxHeartbeats 400000 in
set_option maxRecDepth 100000 in
theorem follows_spec (a b : Chk) (ha : a.ones) (hb : b.ones) (w : World) :
    Calls Try.prog 16 #[a.val, b.val] w fun e w' => e = .returned (.bool (follows a b)) ∧ Sat w 1 w' := by
  obtain ⟨a1, a2, a3, a4⟩ := ha
  obtain ⟨b1, b2, b3, b4⟩ := hb
  refine Calls.enter (cfg := cfg16 w) (β := []) (H := []) (F := 1) (l := [a.lv, b.lv]) Try.func16 rfl rfl (Nat.le_of_ble_eq_true rfl) rfl ((Sat.refl w).eq (one_mul 1).symm) ?_
  refine Go.run mixed 300 [] rfl ?_
  refine Ok.eq (r' := Res.need [fun x ↦ Value.one (Chk.r7 a) = true, fun x ↦ Value.one (Chk.r8 a) = true, fun x ↦ Value.one (Chk.r9 a) = true, fun x ↦ Value.one (Chk.r10 a) = true, fun x ↦ Value.one (Value.slice (Chk.db a) (Chk.dn a) (Chk.dc a)) = true] (Res.new (Res.need [fun x ↦ Value.one (Chk.r7 b) = true, fun x ↦ Value.one (Chk.r8 b) = true, fun x ↦ Value.one (Chk.r9 b) = true, fun x ↦ Value.one (Chk.r10 b) = true, fun x ↦ Value.one (Value.slice (Chk.db b) (Chk.dn b) (Chk.dc b)) = true] (Res.new (Res.leave Leave.ret { stk := [It.code [1, 1, 1, 1]], fr := [(4, LV.bool (Chk.kind a == (0 : Int) && Chk.kind b == (0 : Int) && (Chk.out a == Chk.out b && Chk.inn a == Chk.inn b && Chk.ppid a == Chk.ppid b && ibits BinOp.and IntKind.u8 (ibits BinOp.xor IntKind.u8 (Chk.flags a) (Chk.flags b)) (4 : Int) == (0 : Int)) && Chk.a b == IntKind.wrap IntKind.u32 (Chk.a a + (1 : Int)) && ibits BinOp.and IntKind.u8 (Chk.flags a) (1 : Int) == (0 : Int) && ibits BinOp.and IntKind.u8 (Chk.flags b) (2 : Int) == (0 : Int))), (6, LV.bool (Chk.out a == Chk.out b && Chk.inn a == Chk.inn b && Chk.ppid a == Chk.ppid b && ibits BinOp.and IntKind.u8 (ibits BinOp.xor IntKind.u8 (Chk.flags a) (Chk.flags b)) (4 : Int) == (0 : Int))), (5, LV.bool (Chk.kind a == (0 : Int) && Chk.kind b == (0 : Int))), (3, LV.ptr 1 0), (2, LV.ptr 0 0), (0, LV.agg [LV.int IntKind.u8 (Chk.kind a), LV.int IntKind.u8 (Chk.flags a), LV.int IntKind.u32 (Chk.a a), LV.int IntKind.u32 (Chk.b a), LV.int IntKind.u16 (Chk.out a), LV.int IntKind.u16 (Chk.inn a), LV.int IntKind.u32 (Chk.ppid a), LV.raw (Chk.r7 a), LV.raw (Chk.r8 a), LV.raw (Chk.r9 a), LV.raw (Chk.r10 a), LV.raw (Value.slice (Chk.db a) (Chk.dn a) (Chk.dc a))]), (1, LV.agg [LV.int IntKind.u8 (Chk.kind b), LV.int IntKind.u8 (Chk.flags b), LV.int IntKind.u32 (Chk.a b), LV.int IntKind.u32 (Chk.b b), LV.int IntKind.u16 (Chk.out b), LV.int IntKind.u16 (Chk.inn b), LV.int IntKind.u32 (Chk.ppid b), LV.raw (Chk.r7 b), LV.raw (Chk.r8 b), LV.raw (Chk.r9 b), LV.raw (Chk.r10 b), LV.raw (Value.slice (Chk.db b) (Chk.dn b) (Chk.dc b))])], H := [(1, LO.lay [LV.int IntKind.u8 (Chk.kind b), LV.int IntKind.u8 (Chk.flags b), LV.int IntKind.u32 (Chk.a b), LV.int IntKind.u32 (Chk.b b), LV.int IntKind.u16 (Chk.out b), LV.int IntKind.u16 (Chk.inn b), LV.int IntKind.u32 (Chk.ppid b), LV.raw (Chk.r7 b), LV.raw (Chk.r8 b), LV.raw (Chk.r9 b), LV.raw (Chk.r10 b), LV.raw (Value.slice (Chk.db b) (Chk.dn b) (Chk.dc b))] 39), (0, LO.lay [LV.int IntKind.u8 (Chk.kind a), LV.int IntKind.u8 (Chk.flags a), LV.int IntKind.u32 (Chk.a a), LV.int IntKind.u32 (Chk.b a), LV.int IntKind.u16 (Chk.out a), LV.int IntKind.u16 (Chk.inn a), LV.int IntKind.u32 (Chk.ppid a), LV.raw (Chk.r7 a), LV.raw (Chk.r8 a), LV.raw (Chk.r9 a), LV.raw (Chk.r10 a), LV.raw (Value.slice (Chk.db a) (Chk.dn a) (Chk.dc a))] 39)], nx := 2, orc := [] }))))) (by kernel_rfl) ?_
  refine ⟨⟨a1, a2, a3, a4, rfl, trivial⟩, fun b5 => ⟨⟨b1, b2, b3, b4, rfl, trivial⟩, fun b6 => leave_ok (fun _ => nofun) rfl fun w hs => ⟨?_, hs.right⟩⟩⟩
  rfl

/-- What is asked of a chunk that is read. -/
structure Chk.Ok (w : World) (c : Chk) : Prop where
  ones : c.ones
  rd : Rd w c.db (c.bytes.map (Value.int .u8))
  len : c.bytes.length = c.dn
  nil : c.db = none → c.dn = 0
  small : c.dn ≤ 2000
theorem Chk.Ok.sat {w w' : World} {c : Chk} {F : HP} (h : c.Ok w) (hs : Sat w F w') : c.Ok w' := ⟨h.ones, h.rd.sat hs, h.len, h.nil, h.small⟩

def noChk : Chk := ⟨0, 0, 0, 0, 0, 0, 0, .slice none 0 0, .slice none 0 0, .slice none 0 0, .slice none 0 0, none, 0, 0, []⟩
def noMsg : Msg := ⟨0, false, 0, none, 0, 0, []⟩
def Msg.own (m : Msg) : HP := Go.E.own 5 1 m.db m.dn m.dc (m.bytes.map (Value.int .u8))
/-- Which chunks follow each other, up to the k-th. -/
def chain (cs : List Chk) (k : Nat) : Bool := (List.range k).all fun i => i == 0 || follows (cs.getD (i - 1) noChk) (cs.getD i noChk)
def wholeHead (cs : List Chk) : Bool := !(cs.length == 0 || (cs.getD 0 noChk).kind != 0 || band (cs.getD 0 noChk).flags 2 == 0 || band (cs.getD (cs.length - 1) noChk).flags 1 == 0)
def wholeOk (cs : List Chk) : Bool := wholeHead cs && chain cs cs.length
def WholeR (cs : List Chk) (w : World) (e : Ending) (w' : World) : Prop := ∃ m : Msg, e = .returned (.tuple #[m.val, .bool (wholeOk cs)]) ∧ Sat w (m.own * 1) w' ∧ m.bytes.length = m.dn ∧
  (if wholeOk cs then m.stream = (cs.getD 0 noChk).out ∧ m.unord = (band (cs.getD 0 noChk).flags 4 != 0) ∧ m.ppid = (cs.getD 0 noChk).ppid ∧ m.bytes = cs.flatMap Chk.bytes else m = noMsg)

theorem rd_cell {cs : List Chk} {k : Nat} {c : Chk} (hk : cs[k]? = some c) {j : Nat} {u : Value} (hj : c.cells[j]? = some u) : (cs.flatMap Chk.cells)[k * 12 + j]? = some u := by
  have hat := flat_at (g := Chk.cells) (n := 12) (fun _ _ => rfl) hk
  rw [Nat.mul_comm]; exact hat.get hj
theorem getD_get {α : Type} {l : List α} {k : Nat} {d : α} (h : k < l.length) : l[k]? = some (l.getD k d) := by simp [h]

theorem wholeR_none {cs : List Chk} {w w' : World} (h : wholeOk cs = false) (hs : Sat w 1 w') : WholeR cs w (.returned (.tuple #[noMsg.val, .bool false])) w' := by
  refine ⟨noMsg, by rw [h], own_nil hs, rfl, ?_⟩
  rw [h]; rfl

/-- Where the loop of 'Whole' stands. -/
structure WholeI (cs : List Chk) where
  i : Nat
  mb : Option Addr
  md : Nat
  mc : Nat
  le : i ≤ cs.length
  ch : chain cs i = true
  len : ((cs.take i).flatMap Chk.bytes).length = md

theorem chain_succ (cs : List Chk) (i : Nat) : chain cs (i + 1) = (chain cs i && (i == 0 || follows (cs.getD (i - 1) noChk) (cs.getD i noChk))) := by
  simp [chain, List.range_succ, List.all_append]
theorem chain_le {cs : List Chk} {i k : Nat} (h : chain cs i = false) (hk : i ≤ k) : chain cs k = false := by
  cases hc : chain cs k with
  | false => rfl
  | true =>
    have : chain cs i = true := by
      unfold chain at hc ⊢
      rw [List.all_eq_true] at hc ⊢
      exact fun x hx => hc x (List.mem_range.2 (by have := List.mem_range.1 hx; omega))
    rw [this] at h; cases h
theorem flat_le {cs : List Chk} (h : ∀ c ∈ cs, c.bytes.length ≤ 2000) : (cs.flatMap Chk.bytes).length ≤ 2000 * cs.length := by
  induction cs with
  | nil => simp
  | cons x r ih =>
    have h1 := h x (by simp)
    have h2 := ih fun c hc => h c (by simp [hc])
    simp only [List.flatMap_cons, List.length_append, List.length_cons]
    omega

set_option maxHeartbeats 1000000 in
set_option maxRecDepth 100000 in
theorem whole_spec (base : Option Addr) (n c : Nat) (cs : List Chk) (w : World) (hn : cs.length = n) (hn2 : n ≤ 20000) (hrd : Rd w base (cs.flatMap Chk.cells)) (hok : ∀ c ∈ cs, c.Ok w) :
    Calls Try.prog 13 #[.slice base n c] w (WholeR cs w) := by
  obtain ⟨c0, hc0⟩ : ∃ c0, c0 = cs.getD 0 noChk := ⟨_, rfl⟩
  obtain ⟨cl, hcl⟩ : ∃ cl, cl = cs.getD (n - 1) noChk := ⟨_, rfl⟩
  refine Calls.enter (cfg := cfg13 w) (β := []) (H := []) (F := 1) (l := [.raw (.slice base n c)]) Try.func13 rfl rfl (Nat.le_of_ble_eq_true rfl) rfl ((Sat.refl w).eq (one_mul 1).symm) ?_
  refine Go.run mixed 300 [.int .u8 c0.kind, .int .u8 c0.flags, .int .u8 cl.flags, .int .u16 c0.out, .int .u8 c0.flags, .int .u32 c0.ppid] rfl ?_
  refine Ok.eq (r' := Res.new (Res.need [fun β ↦ (!(↑n : Int) == (0 : Int)) = true → allP β [fun x ↦ (0 : Int) ≤ (0 : Int) ∧ (0 : Int) < (↑n : Int) ∧ Option.isSome base = true]] (Res.need [fun β ↦ (!(↑n : Int) == (0 : Int)) = true → allP β [fun β ↦ (fun x j ↦ aCell (Cfg.w0 (cfg13 w)) (Addr.add (adr base 0) 0) j) β 0 = some (den β (LV.int IntKind.u8 (Chk.kind c0)))]] (Res.need [fun β ↦ (!((↑n : Int) == (0 : Int) || Chk.kind c0 != (0 : Int))) = true → allP β [fun x ↦ (0 : Int) ≤ (0 : Int) ∧ (0 : Int) < (↑n : Int) ∧ Option.isSome base = true]] (Res.need [fun β ↦ (!((↑n : Int) == (0 : Int) || Chk.kind c0 != (0 : Int))) = true → allP β [fun β ↦ (fun x j ↦ aCell (Cfg.w0 (cfg13 w)) (Addr.add (adr base 0) 1) j) β 0 = some (den β (LV.int IntKind.u8 (Chk.flags c0)))]] (Res.need [fun β ↦ (!((↑n : Int) == (0 : Int) || Chk.kind c0 != (0 : Int) || ibits BinOp.and IntKind.u8 (Chk.flags c0) (2 : Int) == (0 : Int))) = true → allP β [fun x ↦ (0 : Int) ≤ IntKind.wrap IntKind.i64 ((↑n : Int) - (1 : Int)) ∧ IntKind.wrap IntKind.i64 ((↑n : Int) - (1 : Int)) < (↑n : Int) ∧ Option.isSome base = true]] (Res.need [fun β ↦ (!((↑n : Int) == (0 : Int) || Chk.kind c0 != (0 : Int) || ibits BinOp.and IntKind.u8 (Chk.flags c0) (2 : Int) == (0 : Int))) = true → allP β [fun β ↦ (fun x j ↦ aCell (Cfg.w0 (cfg13 w)) (Addr.add (adr base (Int.toNat (IntKind.wrap IntKind.i64 ((↑n : Int) - (1 : Int))) * 12)) 1) j) β 0 = some (den β (LV.int IntKind.u8 (Chk.flags cl)))]] (Res.ite ((↑n : Int) == (0 : Int) || Chk.kind c0 != (0 : Int) || ibits BinOp.and IntKind.u8 (Chk.flags c0) (2 : Int) == (0 : Int) || ibits BinOp.and IntKind.u8 (Chk.flags cl) (1 : Int) == (0 : Int)) (Res.leave Leave.ret { stk := [It.code [1, 0, 1, 0, 1], It.code [1, 1]], fr := [(3, LV.cst (Value.bool false)), (2, LV.ptr 0 0), (0, LV.raw (Value.slice base n c))], H := [(0, LO.lay [LV.int IntKind.u16 (0 : Int), LV.cst (Value.bool false), LV.int IntKind.u32 (0 : Int), LV.cst (Value.slice none 0 0)] 26)], nx := 1, orc := [LV.int IntKind.u16 (Chk.out c0), LV.int IntKind.u8 (Chk.flags c0), LV.int IntKind.u32 (Chk.ppid c0)] }) (Res.need [fun x ↦ (0 : Int) ≤ (0 : Int) ∧ (0 : Int) < (↑n : Int) ∧ Option.isSome base = true] (Res.need [fun β ↦ (fun x j ↦ aCell (Cfg.w0 (cfg13 w)) (Addr.add (adr base 0) 4) j) β 0 = some (den β (LV.int IntKind.u16 (Chk.out c0)))] (Res.need [fun x ↦ (0 : Int) ≤ (0 : Int) ∧ (0 : Int) < (↑n : Int) ∧ Option.isSome base = true] (Res.need [fun β ↦ (fun x j ↦ aCell (Cfg.w0 (cfg13 w)) (Addr.add (adr base 0) 1) j) β 0 = some (den β (LV.int IntKind.u8 (Chk.flags c0)))] (Res.need [fun x ↦ (0 : Int) ≤ (0 : Int) ∧ (0 : Int) < (↑n : Int) ∧ Option.isSome base = true] (Res.need [fun β ↦ (fun x j ↦ aCell (Cfg.w0 (cfg13 w)) (Addr.add (adr base 0) 6) j) β 0 = some (den β (LV.int IntKind.u32 (Chk.ppid c0)))] (Res.new (Res.stop { stk := [It.code [1, 1, 1, 0, 1, 0], It.blk 0, It.code [1, 1, 1, 1]], fr := [(54, LV.int IntKind.i64 (0 : Int)), (53, LV.int IntKind.i64 (↑n : Int)), (52, LV.raw (Value.slice base n c)), (4, LV.ptr 1 0), (3, LV.cst (Value.bool false)), (2, LV.ptr 0 0), (0, LV.raw (Value.slice base n c))], H := [(1, LO.lay [LV.int IntKind.u16 (Chk.out c0), LV.bool (ibits BinOp.and IntKind.u8 (Chk.flags c0) (4 : Int) != (0 : Int)), LV.int IntKind.u32 (Chk.ppid c0), LV.cst (Value.slice none 0 0)] 26), (0, LO.lay [LV.int IntKind.u16 (0 : Int), LV.cst (Value.bool false), LV.int IntKind.u32 (0 : Int), LV.cst (Value.slice none 0 0)] 26)], nx := 2, orc := [] })))))))))))))))) (by kernel_rfl) ?_
  have hsome : 0 < n → base.isSome = true := fun h => by
    have hk : cs[0]? = some (cs.getD 0 noChk) := getD_get (by omega)
    exact hrd.isSome (k := 0 * 12 + 0) (rd_cell hk (j := 0) rfl)
  have cell : ∀ k, k < n → ∀ j u, (cs.getD k noChk).cells[j]? = some u → aCell w ((adr base (k * 12)).add j) 0 = some u := fun k hk j u hj =>
    hrd.field (rd_cell (getD_get (by omega)) hj)
  have cell0 : 0 < n → ∀ j u, (cs.getD 0 noChk).cells[j]? = some u → aCell w ((adr base 0).add j) 0 = some u := fun h j u hj => by
    have := cell 0 h j u hj
    rwa [Nat.zero_mul] at this
  have pos : ∀ {x : Bool}, (!((n : Int) == 0 || x)) = true → 0 < n := fun h => by
    simp at h; omega
  have pos1 : (!((n : Int) == 0)) = true → 0 < n := fun h => by simp at h; omega
  have hw1 : 0 < n → IntKind.i64.wrap ((n : Int) - 1) = ((n - 1 : Nat) : Int) := fun h => by rw [IntWalk.i64_in _ (by omega)]; omega
  refine fun b0 => ⟨⟨fun h => ⟨⟨by omega, by have := pos1 h; omega, hsome (pos1 h)⟩, trivial⟩, trivial⟩, ⟨fun h => ⟨cell0 (pos1 h) 0 _ (by rw [← hc0]; rfl), trivial⟩, trivial⟩,
    ⟨fun h => ⟨⟨by omega, by have := pos h; omega, hsome (pos h)⟩, trivial⟩, trivial⟩, ⟨fun h => ⟨cell0 (pos h) 1 _ (by rw [← hc0]; rfl), trivial⟩, trivial⟩,
    ⟨fun h => ⟨?_, trivial⟩, trivial⟩, ⟨fun h => ⟨?_, trivial⟩, trivial⟩, fun hbad => ?_, fun hgood => ?_⟩
  · have hp : 0 < n := pos (by rwa [Bool.or_assoc] at h)
    rw [hw1 hp]
    exact ⟨by omega, by omega, hsome hp⟩
  · have hp : 0 < n := pos (by rwa [Bool.or_assoc] at h)
    rw [hw1 hp, show (((n - 1 : Nat) : Int)).toNat = n - 1 by omega]
    exact cell (n - 1) (by omega) 1 _ (by rw [← hcl]; rfl)
  · refine leave_okC (fun _ => nofun) rfl trivial fun w hs => wholeR_none ?_ hs.right
    have hh : wholeHead cs = false := by
      unfold wholeHead
      rw [hn, ← hc0, ← hcl]
      simp [band] at hbad ⊢
      omega
    simp [wholeOk, hh]
  · have hp : 0 < n := by
      have hg := hgood
      rw [Bool.or_assoc, Bool.or_assoc] at hg
      exact pos (x := _) (by rw [hg]; rfl)
    refine ⟨⟨⟨by omega, by omega, hsome hp⟩, trivial⟩, ⟨cell0 hp 4 _ (by rw [← hc0]; rfl), trivial⟩, ⟨⟨by omega, by omega, hsome hp⟩, trivial⟩, ⟨cell0 hp 1 _ (by rw [← hc0]; rfl), trivial⟩, ⟨⟨by omega, by omega, hsome hp⟩, trivial⟩, ⟨cell0 hp 6 _ (by rw [← hc0]; rfl), trivial⟩, fun b1 => fun _ => ?_⟩
    refine Go.loop (ι := WholeI cs) (fun i => (Go.E.own 5 1 i.mb i.md i.mc (((cs.take i.i).flatMap Chk.bytes).map (Value.int .u8)) * 1, [b0, b1],
      [(54, .int .i64 i.i), (53, .int .i64 n), (52, .raw (.slice base n c)), (4, .ptr 1 0), (2, .ptr 0 0), (0, .raw (.slice base n c))],
      [(1, .lay [.int .u16 c0.out, .bool (ibits .and .u8 c0.flags 4 != 0), .int .u32 c0.ppid, .raw (.slice i.mb i.md i.mc)] 26), (0, .lay [.int .u16 0, .cst (.bool false), .int .u32 0, .cst (.slice none 0 0)] 26)]))
      (fun i => n - i.i) rfl ⟨0, none, 0, 0, by omega, rfl, rfl⟩ (fun w hs => ⟨FrEq.of_all ⟨rfl, rfl, rfl, rfl, rfl, rfl, trivial⟩, rfl, ?_⟩) ?_
    · refine (own_nil (e := 5) (sz := 1) hs).eq ?_
      simp [satH, atom, denO, bk, mul_one, denL, den, star_assoc]
      ac_rfl
    intro I rec
    dsimp only
    obtain ⟨ci, hci⟩ : ∃ ci, ci = cs.getD I.i noChk := ⟨_, rfl⟩
    obtain ⟨cp, hcp⟩ : ∃ cp, cp = cs.getD (I.i - 1) noChk := ⟨_, rfl⟩
    have hcw : I.i < n → ci ∈ cs := fun h => hci ▸ List.mem_of_getElem? (getD_get (d := noChk) (by omega))
    have tail : I.i < n → chain cs (I.i + 1) = true → ∀ b2, Go Try.prog none 13 (RetQ Try.prog Try.f13 (WholeR cs w)) (cfg13 w) [] (Go.E.own 5 1 I.mb I.md I.mc (((cs.take I.i).flatMap Chk.bytes).map (Value.int .u8)) * 1) [b0, b1, b2]
        [(75, .raw (.slice ci.db ci.dn ci.dc)), (73, .raw (.slice I.mb I.md I.mc)), (72, .ptr 1 3), (54, .int .i64 I.i), (53, .int .i64 n), (52, .raw (.slice base n c)), (4, .ptr 1 0), (2, .ptr 0 0), (0, .raw (.slice base n c))]
        [(2, .lay [.int .u8 ci.kind, .int .u8 ci.flags, .int .u32 ci.a, .int .u32 ci.b, .int .u16 ci.out, .int .u16 ci.inn, .int .u32 ci.ppid, .raw ci.r7, .raw ci.r8, .raw ci.r9, .raw ci.r10, .raw (.slice ci.db ci.dn ci.dc)] 39), (1, .lay [.int .u16 c0.out, .bool (ibits .and .u8 c0.flags 4 != 0), .int .u32 c0.ppid, .raw (.slice I.mb I.md I.mc)] 26), (0, .lay [.int .u16 0, .cst (.bool false), .int .u32 0, .cst (.slice none 0 0)] 26)]
        [.reg [1, 1, 1, 0, 1, 0, 0, 1, 1, 0, 0, 1, 1] [4, 5, 6], .blk 1, .code [1, 1, 1, 0, 1, 0, 0, 1, 1, 1], .lp [1, 1, 1, 0, 1, 0, 0], .blk 0, .code [1, 1, 1, 1]] := by
      intro hlt hch b2
      have hcok := hok ci (hcw hlt)
      have hfl := flat_le (cs := cs.take I.i) fun c hc => by have := hok c (List.mem_of_mem_take hc); rw [this.len]; exact this.small
      have hmd := I.len
      have htl : (cs.take I.i).length ≤ 20000 := by rw [List.length_take]; omega
      have hsm := hcok.small
      refine Go.append (base := I.mb) (n := I.md) (c := I.mc) (e := 5) (sz := 1) ci.dn rfl rfl rfl rfl rfl rfl rfl rfl rfl rfl rfl fun w' hs => ?_
      refine ⟨((cs.take I.i).flatMap Chk.bytes).map (Value.int .u8), ci.bytes.map (Value.int .u8), 1, [(2, .lay [.int .u8 ci.kind, .int .u8 ci.flags, .int .u32 ci.a, .int .u32 ci.b, .int .u16 ci.out, .int .u16 ci.inn, .int .u32 ci.ppid, .raw ci.r7, .raw ci.r8, .raw ci.r9, .raw ci.r10, .raw (.slice ci.db ci.dn ci.dc)] 39), (1, .lay [.int .u16 c0.out, .bool (ibits .and .u8 c0.flags 4 != 0), .int .u32 c0.ppid, .raw (.slice I.mb I.md I.mc)] 26), (0, .lay [.int .u16 0, .cst (.bool false), .int .u32 0, .cst (.slice none 0 0)] 26)], hs.eq (by ac_rfl), ?_, ?_, by omega, fun base' c' => ?_⟩
      · exact (hcok.rd.sat hs).src (tx := 24) (e' := 5) rfl (by simp [hcok.len]) (by simp [Value.one]) hcok.nil
      · show (I.md + ci.dn) * 1 ≤ _
        omega
      have htk : cs.take (I.i + 1) = cs.take I.i ++ [ci] := by rw [List.take_add_one, getD_get (d := noChk) (by omega : I.i < cs.length), ← hci]; rfl
      have hrec := rec ⟨I.i + 1, base', I.md + ci.dn, c', by omega, hch, by rw [htk, List.flatMap_append, List.length_append, I.len]; simp [hcok.len]⟩ (by show n - (I.i + 1) < n - I.i; omega)
      have hwr : IntKind.i64.wrap ((I.i : Int) + 1) = ((I.i + 1 : Nat) : Int) := by rw [IntWalk.i64_in _ (by omega)]; omega
      dsimp only at hrec
      rw [htk] at hrec
      refine Go.run mixed 300 [] rfl ?_
      refine Ok.eq (r' := Res.need [fun x ↦ Value.one (Value.slice base' (WholeI.md I + Chk.dn ci) c') = true] (Res.stop { stk := [It.lp [1, 1, 1, 0, 1, 0, 0], It.blk 0, It.code [1, 1, 1, 1]], fr := [(54, LV.int IntKind.i64 (IntKind.wrap IntKind.i64 ((↑(WholeI.i I) : Int) + (1 : Int)))), (53, LV.int IntKind.i64 (↑n : Int)), (52, LV.raw (Value.slice base n c)), (4, LV.ptr 1 0), (2, LV.ptr 0 0), (0, LV.raw (Value.slice base n c))], H := [(2, LO.lay [LV.int IntKind.u8 (Chk.kind ci), LV.int IntKind.u8 (Chk.flags ci), LV.int IntKind.u32 (Chk.a ci), LV.int IntKind.u32 (Chk.b ci), LV.int IntKind.u16 (Chk.out ci), LV.int IntKind.u16 (Chk.inn ci), LV.int IntKind.u32 (Chk.ppid ci), LV.raw (Chk.r7 ci), LV.raw (Chk.r8 ci), LV.raw (Chk.r9 ci), LV.raw (Chk.r10 ci), LV.raw (Value.slice (Chk.db ci) (Chk.dn ci) (Chk.dc ci))] 39), (1, LO.lay [LV.int IntKind.u16 (Chk.out c0), LV.bool (ibits BinOp.and IntKind.u8 (Chk.flags c0) (4 : Int) != (0 : Int)), LV.int IntKind.u32 (Chk.ppid c0), LV.raw (Value.slice base' (WholeI.md I + Chk.dn ci) c')] 26), (0, LO.lay [LV.int IntKind.u16 (0 : Int), LV.cst (Value.bool false), LV.int IntKind.u32 (0 : Int), LV.cst (Value.slice none 0 0)] 26)], nx := 3, orc := [] })) (by kernel_rfl) ?_
      refine ⟨⟨rfl, trivial⟩, fun _ => Go.again hrec (fun _ => rfl) fun w hs => ⟨⟨congrArg (Value.int .i64) hwr.symm, rfl, rfl, rfl, rfl, rfl, trivial⟩, rfl, ?_⟩⟩
      refine Sat.right (p := pt b2 (.cells ci.cells.toArray 39)) (hs.eq ?_)
      simp [satH, atom, denO, bk, mul_one, denL, den, star_assoc, Chk.cells]
    refine Go.run mixed 300 [ci.lv, cp.lv] rfl ?_
    refine Ok.eq (r' := Res.ite (decide ((↑(WholeI.i I) : Int) < (↑n : Int))) (Res.need [fun x ↦ (0 : Int) ≤ (↑(WholeI.i I) : Int) ∧ (↑(WholeI.i I) : Int) < (↑n : Int) ∧ Option.isSome base = true] (Res.need [fun β ↦ E.rowAt β ((fun x j ↦ aCell (Cfg.w0 (cfg13 w)) (adr base (Int.toNat (↑(WholeI.i I) : Int) * 12)) j) β) 0 [LV.int IntKind.u8 (Chk.kind ci), LV.int IntKind.u8 (Chk.flags ci), LV.int IntKind.u32 (Chk.a ci), LV.int IntKind.u32 (Chk.b ci), LV.int IntKind.u16 (Chk.out ci), LV.int IntKind.u16 (Chk.inn ci), LV.int IntKind.u32 (Chk.ppid ci), LV.raw (Chk.r7 ci), LV.raw (Chk.r8 ci), LV.raw (Chk.r9 ci), LV.raw (Chk.r10 ci), LV.raw (Value.slice (Chk.db ci) (Chk.dn ci) (Chk.dc ci))]] (Res.new (Res.need [fun x ↦ Value.one (Chk.r7 ci) = true, fun x ↦ Value.one (Chk.r8 ci) = true, fun x ↦ Value.one (Chk.r9 ci) = true, fun x ↦ Value.one (Chk.r10 ci) = true, fun x ↦ Value.one (Value.slice (Chk.db ci) (Chk.dn ci) (Chk.dc ci)) = true] (Res.need [fun β ↦ decide ((↑(WholeI.i I) : Int) > (0 : Int)) = true → allP β [fun x ↦ (0 : Int) ≤ IntKind.wrap IntKind.i64 ((↑(WholeI.i I) : Int) - (1 : Int)) ∧ IntKind.wrap IntKind.i64 ((↑(WholeI.i I) : Int) - (1 : Int)) < (↑n : Int) ∧ Option.isSome base = true]] (Res.need [fun β ↦ decide ((↑(WholeI.i I) : Int) > (0 : Int)) = true → allP β [fun β ↦ E.rowAt β ((fun x j ↦ aCell (Cfg.w0 (cfg13 w)) (adr base (Int.toNat (IntKind.wrap IntKind.i64 ((↑(WholeI.i I) : Int) - (1 : Int))) * 12)) j) β) 0 [LV.int IntKind.u8 (Chk.kind cp), LV.int IntKind.u8 (Chk.flags cp), LV.int IntKind.u32 (Chk.a cp), LV.int IntKind.u32 (Chk.b cp), LV.int IntKind.u16 (Chk.out cp), LV.int IntKind.u16 (Chk.inn cp), LV.int IntKind.u32 (Chk.ppid cp), LV.raw (Chk.r7 cp), LV.raw (Chk.r8 cp), LV.raw (Chk.r9 cp), LV.raw (Chk.r10 cp), LV.raw (Value.slice (Chk.db cp) (Chk.dn cp) (Chk.dc cp))]]] (Res.ite (decide ((↑(WholeI.i I) : Int) > (0 : Int))) (Res.stop { stk := [It.dop [1, 1, 1, 0, 1, 0, 0, 1, 1, 0, 0, 1, 0, 0] 511 2 4095 [(2, LO.lay [LV.int IntKind.u8 (Chk.kind ci), LV.int IntKind.u8 (Chk.flags ci), LV.int IntKind.u32 (Chk.a ci), LV.int IntKind.u32 (Chk.b ci), LV.int IntKind.u16 (Chk.out ci), LV.int IntKind.u16 (Chk.inn ci), LV.int IntKind.u32 (Chk.ppid ci), LV.raw (Chk.r7 ci), LV.raw (Chk.r8 ci), LV.raw (Chk.r9 ci), LV.raw (Chk.r10 ci), LV.raw (Value.slice (Chk.db ci) (Chk.dn ci) (Chk.dc ci))] 39), (1, LO.lay [LV.int IntKind.u16 (Chk.out c0), LV.bool (ibits BinOp.and IntKind.u8 (Chk.flags c0) (4 : Int) != (0 : Int)), LV.int IntKind.u32 (Chk.ppid c0), LV.raw (Value.slice (WholeI.mb I) (WholeI.md I) (WholeI.mc I))] 26), (0, LO.lay [LV.int IntKind.u16 (0 : Int), LV.cst (Value.bool false), LV.int IntKind.u32 (0 : Int), LV.cst (Value.slice none 0 0)] 26)] 9, It.code [1, 1, 1, 0, 1, 0, 0, 1, 1, 0, 0, 1, 0, 1], It.code [1, 1, 1, 0, 1, 0, 0, 1, 1, 0, 0, 1, 1], It.blk 1, It.code [1, 1, 1, 0, 1, 0, 0, 1, 1, 1], It.lp [1, 1, 1, 0, 1, 0, 0], It.blk 0, It.code [1, 1, 1, 1]], fr := [(61, LV.cst (Value.bool true)), (67, LV.agg [LV.int IntKind.u8 (Chk.kind ci), LV.int IntKind.u8 (Chk.flags ci), LV.int IntKind.u32 (Chk.a ci), LV.int IntKind.u32 (Chk.b ci), LV.int IntKind.u16 (Chk.out ci), LV.int IntKind.u16 (Chk.inn ci), LV.int IntKind.u32 (Chk.ppid ci), LV.raw (Chk.r7 ci), LV.raw (Chk.r8 ci), LV.raw (Chk.r9 ci), LV.raw (Chk.r10 ci), LV.raw (Value.slice (Chk.db ci) (Chk.dn ci) (Chk.dc ci))]), (66, LV.agg [LV.int IntKind.u8 (Chk.kind cp), LV.int IntKind.u8 (Chk.flags cp), LV.int IntKind.u32 (Chk.a cp), LV.int IntKind.u32 (Chk.b cp), LV.int IntKind.u16 (Chk.out cp), LV.int IntKind.u16 (Chk.inn cp), LV.int IntKind.u32 (Chk.ppid cp), LV.raw (Chk.r7 cp), LV.raw (Chk.r8 cp), LV.raw (Chk.r9 cp), LV.raw (Chk.r10 cp), LV.raw (Value.slice (Chk.db cp) (Chk.dn cp) (Chk.dc cp))]), (65, LV.raw (Value.pointer (some (adr base (Int.toNat (IntKind.wrap IntKind.i64 ((↑(WholeI.i I) : Int) - (1 : Int))) * 12))))), (64, LV.int IntKind.i64 (IntKind.wrap IntKind.i64 ((↑(WholeI.i I) : Int) - (1 : Int)))), (63, LV.int IntKind.i64 (↑(WholeI.i I) : Int)), (62, LV.raw (Value.slice base n c)), (60, LV.bool (decide ((↑(WholeI.i I) : Int) > (0 : Int)))), (59, LV.int IntKind.i64 (↑(WholeI.i I) : Int)), (5, LV.int IntKind.i64 (↑(WholeI.i I) : Int)), (6, LV.ptr 2 0), (54, LV.int IntKind.i64 (↑(WholeI.i I) : Int)), (53, LV.int IntKind.i64 (↑n : Int)), (52, LV.raw (Value.slice base n c)), (4, LV.ptr 1 0), (2, LV.ptr 0 0), (0, LV.raw (Value.slice base n c))], H := [(2, LO.lay [LV.int IntKind.u8 (Chk.kind ci), LV.int IntKind.u8 (Chk.flags ci), LV.int IntKind.u32 (Chk.a ci), LV.int IntKind.u32 (Chk.b ci), LV.int IntKind.u16 (Chk.out ci), LV.int IntKind.u16 (Chk.inn ci), LV.int IntKind.u32 (Chk.ppid ci), LV.raw (Chk.r7 ci), LV.raw (Chk.r8 ci), LV.raw (Chk.r9 ci), LV.raw (Chk.r10 ci), LV.raw (Value.slice (Chk.db ci) (Chk.dn ci) (Chk.dc ci))] 39), (1, LO.lay [LV.int IntKind.u16 (Chk.out c0), LV.bool (ibits BinOp.and IntKind.u8 (Chk.flags c0) (4 : Int) != (0 : Int)), LV.int IntKind.u32 (Chk.ppid c0), LV.raw (Value.slice (WholeI.mb I) (WholeI.md I) (WholeI.mc I))] 26), (0, LO.lay [LV.int IntKind.u16 (0 : Int), LV.cst (Value.bool false), LV.int IntKind.u32 (0 : Int), LV.cst (Value.slice none 0 0)] 26)], nx := 3, orc := [] }) (Res.stop { stk := [It.reg [1, 1, 1, 0, 1, 0, 0, 1, 1, 0, 0, 1, 1] [4, 5, 6], It.blk 1, It.code [1, 1, 1, 0, 1, 0, 0, 1, 1, 1], It.lp [1, 1, 1, 0, 1, 0, 0], It.blk 0, It.code [1, 1, 1, 1]], fr := [(75, LV.raw (Value.slice (Chk.db ci) (Chk.dn ci) (Chk.dc ci))), (74, LV.ptr 2 11), (73, LV.raw (Value.slice (WholeI.mb I) (WholeI.md I) (WholeI.mc I))), (72, LV.ptr 1 3), (5, LV.int IntKind.i64 (↑(WholeI.i I) : Int)), (6, LV.ptr 2 0), (54, LV.int IntKind.i64 (↑(WholeI.i I) : Int)), (53, LV.int IntKind.i64 (↑n : Int)), (52, LV.raw (Value.slice base n c)), (4, LV.ptr 1 0), (2, LV.ptr 0 0), (0, LV.raw (Value.slice base n c))], H := [(2, LO.lay [LV.int IntKind.u8 (Chk.kind ci), LV.int IntKind.u8 (Chk.flags ci), LV.int IntKind.u32 (Chk.a ci), LV.int IntKind.u32 (Chk.b ci), LV.int IntKind.u16 (Chk.out ci), LV.int IntKind.u16 (Chk.inn ci), LV.int IntKind.u32 (Chk.ppid ci), LV.raw (Chk.r7 ci), LV.raw (Chk.r8 ci), LV.raw (Chk.r9 ci), LV.raw (Chk.r10 ci), LV.raw (Value.slice (Chk.db ci) (Chk.dn ci) (Chk.dc ci))] 39), (1, LO.lay [LV.int IntKind.u16 (Chk.out c0), LV.bool (ibits BinOp.and IntKind.u8 (Chk.flags c0) (4 : Int) != (0 : Int)), LV.int IntKind.u32 (Chk.ppid c0), LV.raw (Value.slice (WholeI.mb I) (WholeI.md I) (WholeI.mc I))] 26), (0, LO.lay [LV.int IntKind.u16 (0 : Int), LV.cst (Value.bool false), LV.int IntKind.u32 (0 : Int), LV.cst (Value.slice none 0 0)] 26)], nx := 3, orc := [] })))))))) (Res.need [fun x ↦ Value.one (Value.slice (WholeI.mb I) (WholeI.md I) (WholeI.mc I)) = true] (Res.leave Leave.ret { stk := [It.code [1, 1, 1, 1, 1]], fr := [(3, LV.cst (Value.bool true)), (54, LV.int IntKind.i64 (↑(WholeI.i I) : Int)), (53, LV.int IntKind.i64 (↑n : Int)), (52, LV.raw (Value.slice base n c)), (4, LV.ptr 1 0), (2, LV.ptr 0 0), (0, LV.raw (Value.slice base n c))], H := [(1, LO.lay [LV.int IntKind.u16 (Chk.out c0), LV.bool (ibits BinOp.and IntKind.u8 (Chk.flags c0) (4 : Int) != (0 : Int)), LV.int IntKind.u32 (Chk.ppid c0), LV.raw (Value.slice (WholeI.mb I) (WholeI.md I) (WholeI.mc I))] 26), (0, LO.lay [LV.int IntKind.u16 (Chk.out c0), LV.bool (ibits BinOp.and IntKind.u8 (Chk.flags c0) (4 : Int) != (0 : Int)), LV.int IntKind.u32 (Chk.ppid c0), LV.raw (Value.slice (WholeI.mb I) (WholeI.md I) (WholeI.mc I))] 26)], nx := 2, orc := [LV.agg [LV.int IntKind.u8 (Chk.kind ci), LV.int IntKind.u8 (Chk.flags ci), LV.int IntKind.u32 (Chk.a ci), LV.int IntKind.u32 (Chk.b ci), LV.int IntKind.u16 (Chk.out ci), LV.int IntKind.u16 (Chk.inn ci), LV.int IntKind.u32 (Chk.ppid ci), LV.raw (Chk.r7 ci), LV.raw (Chk.r8 ci), LV.raw (Chk.r9 ci), LV.raw (Chk.r10 ci), LV.raw (Value.slice (Chk.db ci) (Chk.dn ci) (Chk.dc ci))], LV.agg [LV.int IntKind.u8 (Chk.kind cp), LV.int IntKind.u8 (Chk.flags cp), LV.int IntKind.u32 (Chk.a cp), LV.int IntKind.u32 (Chk.b cp), LV.int IntKind.u16 (Chk.out cp), LV.int IntKind.u16 (Chk.inn cp), LV.int IntKind.u32 (Chk.ppid cp), LV.raw (Chk.r7 cp), LV.raw (Chk.r8 cp), LV.raw (Chk.r9 cp), LV.raw (Chk.r10 cp), LV.raw (Value.slice (Chk.db cp) (Chk.dn cp) (Chk.dc cp))]] }))) (by kernel_rfl) ?_
    refine ⟨fun hlt => ?_, fun hge => ?_⟩
    · have hlt' : I.i < n := by simp at hlt; omega
      have hcok := hok ci (hcw hlt')
      have hi1 : ((I.i : Nat) : Int).toNat = I.i := by omega
      have hw2 : 0 < I.i → IntKind.i64.wrap ((I.i : Int) - 1) = ((I.i - 1 : Nat) : Int) := fun h => by rw [IntWalk.i64_in _ (by omega)]; omega
      have row : ∀ k c, cs[k]? = some c → ∀ β, E.rowAt β (fun j => aCell w (adr base (k * 12)) j) 0 [.int .u8 c.kind, .int .u8 c.flags, .int .u32 c.a, .int .u32 c.b, .int .u16 c.out, .int .u16 c.inn, .int .u32 c.ppid, .raw c.r7, .raw c.r8, .raw c.r9, .raw c.r10, .raw (.slice c.db c.dn c.dc)] := fun k c hk β =>
        ⟨hrd.cell (rd_cell hk rfl), hrd.cell (rd_cell hk rfl), hrd.cell (rd_cell hk rfl), hrd.cell (rd_cell hk rfl), hrd.cell (rd_cell hk rfl), hrd.cell (rd_cell hk rfl), hrd.cell (rd_cell hk rfl), hrd.cell (rd_cell hk rfl), hrd.cell (rd_cell hk rfl), hrd.cell (rd_cell hk rfl), hrd.cell (rd_cell hk rfl), hrd.cell (rd_cell hk rfl), trivial⟩
      have gi : cs[I.i]? = some ci := hci ▸ getD_get (by omega)
      have gp : cs[I.i - 1]? = some cp := hcp ▸ getD_get (by omega)
      obtain ⟨o7, o8, o9, o10⟩ := hcok.ones
      have gpos : decide ((I.i : Int) > 0) = true → 0 < I.i := fun h => by simp at h; omega
      rw [hi1]
      refine ⟨⟨⟨by omega, by omega, hsome hp⟩, trivial⟩, ⟨row I.i ci gi _, trivial⟩, fun b2 => ⟨⟨o7, o8, o9, o10, rfl, trivial⟩, ⟨fun h => ⟨?_, trivial⟩, trivial⟩, ⟨fun h => ⟨?_, trivial⟩, trivial⟩, fun hi => ?_, fun hi => ?_⟩⟩
      · have := gpos h
        rw [hw2 this]
        exact ⟨by omega, by omega, hsome hp⟩
      · have := gpos h
        rw [hw2 this, show (((I.i - 1 : Nat) : Int)).toNat = I.i - 1 by omega]
        exact row _ cp gp _
      · have hi0 := gpos hi
        have hcpk := hok cp (List.mem_of_getElem? gp)
        have hchs : chain cs (I.i + 1) = follows cp ci := by
          rw [chain_succ, I.ch, Bool.true_and, ← hcp, ← hci, show (I.i == 0) = false by simp; omega, Bool.false_or]
        refine fun _ => Go.callDT rfl rfl rfl rfl rfl rfl rfl rfl fun w' hs => ?_
        have hf := follows_spec cp ci hcpk.ones hcok.ones w'
        refine hf.mono fun e w'' he => ⟨.bool (follows cp ci), 1, he.1, rfl, he.2, ?_⟩
        refine Go.run mixed 300 [] rfl ?_
        refine Ok.eq (r' := Res.ite (!follows cp ci) (Res.leave Leave.ret { stk := [It.code [1, 1, 1, 0, 1, 0, 0, 1, 1, 0, 0, 1, 0, 1, 0, 1], It.code [1, 1, 1, 0, 1, 0, 0, 1, 1, 0, 0, 1, 1], It.blk 1, It.code [1, 1, 1, 0, 1, 0, 0, 1, 1, 1], It.lp [1, 1, 1, 0, 1, 0, 0], It.blk 0, It.code [1, 1, 1, 1]], fr := [(3, LV.cst (Value.bool false)), (5, LV.int IntKind.i64 (↑(WholeI.i I) : Int)), (6, LV.ptr 2 0), (54, LV.int IntKind.i64 (↑(WholeI.i I) : Int)), (53, LV.int IntKind.i64 (↑n : Int)), (52, LV.raw (Value.slice base n c)), (4, LV.ptr 1 0), (2, LV.ptr 0 0), (0, LV.raw (Value.slice base n c))], H := [(2, LO.lay [LV.int IntKind.u8 (Chk.kind ci), LV.int IntKind.u8 (Chk.flags ci), LV.int IntKind.u32 (Chk.a ci), LV.int IntKind.u32 (Chk.b ci), LV.int IntKind.u16 (Chk.out ci), LV.int IntKind.u16 (Chk.inn ci), LV.int IntKind.u32 (Chk.ppid ci), LV.raw (Chk.r7 ci), LV.raw (Chk.r8 ci), LV.raw (Chk.r9 ci), LV.raw (Chk.r10 ci), LV.raw (Value.slice (Chk.db ci) (Chk.dn ci) (Chk.dc ci))] 39), (1, LO.lay [LV.int IntKind.u16 (Chk.out c0), LV.bool (ibits BinOp.and IntKind.u8 (Chk.flags c0) (4 : Int) != (0 : Int)), LV.int IntKind.u32 (Chk.ppid c0), LV.raw (Value.slice (WholeI.mb I) (WholeI.md I) (WholeI.mc I))] 26), (0, LO.lay [LV.int IntKind.u16 (0 : Int), LV.cst (Value.bool false), LV.int IntKind.u32 (0 : Int), LV.cst (Value.slice none 0 0)] 26)], nx := 3, orc := [] }) (Res.stop { stk := [It.reg [1, 1, 1, 0, 1, 0, 0, 1, 1, 0, 0, 1, 1] [4, 5, 6], It.blk 1, It.code [1, 1, 1, 0, 1, 0, 0, 1, 1, 1], It.lp [1, 1, 1, 0, 1, 0, 0], It.blk 0, It.code [1, 1, 1, 1]], fr := [(75, LV.raw (Value.slice (Chk.db ci) (Chk.dn ci) (Chk.dc ci))), (74, LV.ptr 2 11), (73, LV.raw (Value.slice (WholeI.mb I) (WholeI.md I) (WholeI.mc I))), (72, LV.ptr 1 3), (5, LV.int IntKind.i64 (↑(WholeI.i I) : Int)), (6, LV.ptr 2 0), (54, LV.int IntKind.i64 (↑(WholeI.i I) : Int)), (53, LV.int IntKind.i64 (↑n : Int)), (52, LV.raw (Value.slice base n c)), (4, LV.ptr 1 0), (2, LV.ptr 0 0), (0, LV.raw (Value.slice base n c))], H := [(2, LO.lay [LV.int IntKind.u8 (Chk.kind ci), LV.int IntKind.u8 (Chk.flags ci), LV.int IntKind.u32 (Chk.a ci), LV.int IntKind.u32 (Chk.b ci), LV.int IntKind.u16 (Chk.out ci), LV.int IntKind.u16 (Chk.inn ci), LV.int IntKind.u32 (Chk.ppid ci), LV.raw (Chk.r7 ci), LV.raw (Chk.r8 ci), LV.raw (Chk.r9 ci), LV.raw (Chk.r10 ci), LV.raw (Value.slice (Chk.db ci) (Chk.dn ci) (Chk.dc ci))] 39), (1, LO.lay [LV.int IntKind.u16 (Chk.out c0), LV.bool (ibits BinOp.and IntKind.u8 (Chk.flags c0) (4 : Int) != (0 : Int)), LV.int IntKind.u32 (Chk.ppid c0), LV.raw (Value.slice (WholeI.mb I) (WholeI.md I) (WholeI.mc I))] 26), (0, LO.lay [LV.int IntKind.u16 (0 : Int), LV.cst (Value.bool false), LV.int IntKind.u32 (0 : Int), LV.cst (Value.slice none 0 0)] 26)], nx := 3, orc := [] })) (by kernel_rfl) ?_
        refine ⟨fun hno => ?_, fun hyes => fun _ => ?_⟩
        · refine leave_okC (fun _ => nofun) rfl trivial fun w hs => wholeR_none ?_ ((hs.right.eq (one_mul _)).right)
          have hn0 : follows cp ci = false := by simpa using hno
          simp [wholeOk, chain_le (hchs.trans hn0) (show I.i + 1 ≤ cs.length by omega)]
        · have hy : follows cp ci = true := by simpa using hyes
          exact Go.again (tail hlt' (hchs.trans hy) b2) (fun _ => rfl) fun w hs => ⟨⟨rfl, rfl, rfl, rfl, rfl, rfl, rfl, rfl, rfl, trivial⟩, rfl, hs.eq (by rw [one_mul]; rfl)⟩
      · have hi0 : I.i = 0 := by simp at hi; omega
        exact fun _ => Go.again (tail hlt' (by rw [chain_succ, I.ch, hi0]; rfl) b2) (fun _ => rfl) fun w hs => ⟨⟨rfl, rfl, rfl, rfl, rfl, rfl, rfl, rfl, rfl, trivial⟩, rfl, hs⟩
    · have hin : I.i = n := by have := I.le; simp at hge; omega
      have htk : cs.take I.i = cs := List.take_of_length_le (by omega)
      have hh : wholeHead cs = true := by
        unfold wholeHead
        rw [hn, ← hc0, ← hcl]
        simp only [band]
        rw [show (n == 0) = ((n : Int) == 0) by cases n <;> simp <;> omega]
        rw [hgood]; rfl
      have hw : wholeOk cs = true := by
        have := I.ch
        rw [hin, ← hn] at this
        rw [wholeOk, hh, this]; rfl
      have hml := I.len
      rw [htk] at hml
      refine ⟨⟨rfl, trivial⟩, leave_okC (fun _ => nofun) rfl trivial fun w hs => ⟨⟨c0.out, ibits .and .u8 c0.flags 4 != 0, c0.ppid, I.mb, I.md, I.mc, cs.flatMap Chk.bytes⟩, ?_, ?_, hml, ?_⟩⟩
      · rw [hw]; rfl
      · have := hs.right
        rwa [htk] at this
      · rw [if_pos hw, ← hc0]
        exact ⟨rfl, rfl, rfl, rfl⟩

end Go.Proofs.Ytlgggljlegpaoaa
