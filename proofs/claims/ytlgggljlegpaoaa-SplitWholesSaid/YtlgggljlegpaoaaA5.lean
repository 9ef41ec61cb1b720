/- Layer 13: the document's 'Split', walked. -/
import Derived.Test.YtlgggljlegpaoaaA4
namespace Go.Proofs.Ytlgggljlegpaoaa
open Go Go.E Go.Proofs

def w8 (x : Int) : Int := IntKind.u8.wrap x
def rfl0 (k : Nat) : Int := if k = 0 then w8 (0 + 2) else 0
def rfl1 (m : Msg) (n k : Nat) : Int := if m.dn ≤ (k + 1) * n then w8 (rfl0 k + 1) else rfl0 k
def rflag (m : Msg) (n k : Nat) : Int := if m.unord then w8 (rfl1 m n k + 4) else rfl1 m n k
/-- The k-th piece of the document. -/
def rpc (m : Msg) (tsn inn : Int) (n k : Nat) : Chk :=
  ⟨0, rflag m n k, tsnAt tsn k, 0, m.stream, inn, m.ppid, .slice none 0 0, .slice none 0 0, .slice none 0 0, .slice none 0 0, m.db.map fun a => a.add (k * n), (piece m n k).length, m.dc - k * n, piece m n k⟩
def rpcs (m : Msg) (tsn inn : Int) (n k : Nat) : List Chk := (List.range k).map (rpc m tsn inn n)
theorem rpcs_length (m : Msg) (tsn inn : Int) (n k : Nat) : (rpcs m tsn inn n k).length = k := by simp [rpcs]
theorem rpcs_snoc (m : Msg) (tsn inn : Int) (n k : Nat) : rpcs m tsn inn n (k + 1) = rpcs m tsn inn n k ++ [rpc m tsn inn n k] := by simp [rpcs, List.range_succ]

structure RSpl (m : Msg) (n : Nat) where
  k : Nat
  bb : Option Addr
  cc : Nat
  base : Option Addr
  cap : Nat
  at_ : k * n < m.dn → bb = (m.db.map fun a => a.add (k * n)) ∧ cc = m.dc - k * n
  lt : k = 0 ∨ (k - 1) * n < m.dn

abbrev rL (m : Msg) (fl inn a : Int) (d : LV) : List LV := [.int .u8 0, .int .u8 fl, .int .u32 a, .int .u32 0, .int .u16 m.stream, .int .u16 inn, .int .u32 m.ppid, .cst (.slice none 0 0), .cst (.slice none 0 0), .cst (.slice none 0 0), .cst (.slice none 0 0), d]
abbrev mH (m : Msg) : Hp := [(0, .lay [.int .u16 m.stream, .bool m.unord, .int .u32 m.ppid, .raw (.slice m.db m.dn m.dc)] 26)]

set_option maxHeartbeats 1000000 in
set_option maxRecDepth 100000 in
theorem rsplit_rest (m : Msg) (tsn inn : Int) (n : Nat) (b4 : Nat) {w0 : World} {R : Ending → World → Prop} (h1 : 1 ≤ n) (h2 : n ≤ 1172) (hm0 : 0 < m.dn) (hm : m.dn ≤ 16384) (hlen : m.bytes.length = m.dn) (hcap : m.dn ≤ m.dc) (hcb : m.dc ≤ 9223372036854775807)
    (hR : ∀ k w base c, 0 < k → m.dn ≤ k * n → (k - 1) * n < m.dn → Sat w0 (own 39 12 base k c ((rpcs m tsn inn n k).flatMap Chk.cells) * 1) w → R (.returned (.tuple #[.slice base k c, .int .i64 0])) w) :
    Go Try.prog none 9 (RetQ Try.prog Try.f9 R) (cfg9 w0) [] 1 [b4] [(11, .raw (.slice m.db m.dn m.dc)), (10, .cst (.slice none 0 0)), (4, .ptr 0 0), (1, .int .u32 tsn), (2, .int .u16 inn), (3, .int .i64 n)] (mH m)
      [.code [1, 1, 1, 1, 1, 1, 0, 0], .blk 0, .code [1, 1, 1, 1, 1, 1, 1]] := by
  refine Go.loop (ι := RSpl m n) (fun i => (own 39 12 i.base i.k i.cap ((rpcs m tsn inn n i.k).flatMap Chk.cells) * 1, [b4], [(11, .raw (.slice i.bb (m.dn - i.k * n) i.cc)), (10, .raw (.slice i.base i.k i.cap)), (4, .ptr 0 0), (1, .int .u32 tsn), (2, .int .u16 inn), (3, .int .i64 n)], mH m))
    (fun i => m.dn - i.k * n) rfl ⟨0, m.db, m.dc, none, 0, fun _ => ⟨by rw [Nat.zero_mul]; cases m.db <;> rfl, by omega⟩, .inl rfl⟩ (fun w hs => ⟨FrEq.of_all ⟨?_, rfl, rfl, rfl, rfl, rfl, trivial⟩, rfl, ?_⟩) ?_
  · show Value.slice m.db (m.dn - 0 * n) m.dc = Value.slice m.db m.dn m.dc
    rw [Nat.zero_mul, Nat.sub_zero]
  · exact (own_nil (e := 39) (sz := 12) hs).eq (star_left _ _ _)
  intro I rec
  dsimp only
  obtain ⟨q, hq⟩ : ∃ q, q = I.k * n := ⟨_, rfl⟩
  have hq1 : (I.k + 1) * n = q + n := by rw [Nat.succ_mul, hq]
  have hkq : I.k ≤ q := by rw [hq]; exact Nat.le_mul_of_pos_right _ h1
  have hat := I.at_
  rw [← hq] at hat ⊢
  refine Go.runS mixed 300 [] [12] rfl ?_
  refine Ok.eq (r' := Res.ite (decide ((↑(Msg.dn m - q) : Int) > (0 : Int))) (Res.need [fun x ↦ ((0 : Int) ≤ if (↑(Msg.dn m - q) : Int) < (↑n : Int) then (↑(Msg.dn m - q) : Int) else (↑n : Int)) ∧ (if (↑(Msg.dn m - q) : Int) < (↑n : Int) then (↑(Msg.dn m - q) : Int) else (↑n : Int)) ≤ (↑(RSpl.cc I) : Int)] (Res.need [fun x ↦ Value.one (Value.slice (RSpl.bb I) (Int.toNat (if (↑(Msg.dn m - q) : Int) < (↑n : Int) then (↑(Msg.dn m - q) : Int) else (↑n : Int)) - 0) (RSpl.cc I - 0)) = true] (Res.new (Res.need [fun x ↦ Value.one (Value.slice (RSpl.bb I) (Int.toNat (if (↑(Msg.dn m - q) : Int) < (↑n : Int) then (↑(Msg.dn m - q) : Int) else (↑n : Int)) - 0) (RSpl.cc I - 0)) = true] (Res.stop { stk := [It.code [1, 1, 1, 1, 1, 1, 0, 0, 0, 1, 0, 1, 1, 0, 0], It.code [1, 1, 1, 1, 1, 1, 0, 0, 0, 1, 0, 1, 1, 0, 1], It.code [1, 1, 1, 1, 1, 1, 0, 0, 0, 1, 0, 1, 1, 1], It.blk 1, It.lp [1, 1, 1, 1, 1, 1, 0, 0, 0], It.blk 0, It.code [1, 1, 1, 1, 1, 1, 1]], fr := [(13, LV.ptr 1 0), (12, LV.int IntKind.i64 (if (↑(Msg.dn m - q) : Int) < (↑n : Int) then (↑(Msg.dn m - q) : Int) else (↑n : Int))), (11, LV.raw (Value.slice (RSpl.bb I) (Msg.dn m - q) (RSpl.cc I))), (10, LV.raw (Value.slice (RSpl.base I) (RSpl.k I) (RSpl.cap I))), (4, LV.ptr 0 0), (1, LV.int IntKind.u32 tsn), (2, LV.int IntKind.u16 inn), (3, LV.int IntKind.i64 (↑n : Int))], H := [(1, LO.lay [LV.int IntKind.u8 (0 : Int), LV.int IntKind.u8 (0 : Int), LV.int IntKind.u32 (IntKind.wrap IntKind.u32 (tsn + IntKind.wrap IntKind.u32 (↑(RSpl.k I) : Int))), LV.int IntKind.u32 (0 : Int), LV.int IntKind.u16 (Msg.stream m), LV.int IntKind.u16 inn, LV.int IntKind.u32 (Msg.ppid m), LV.cst (Value.slice none 0 0), LV.cst (Value.slice none 0 0), LV.cst (Value.slice none 0 0), LV.cst (Value.slice none 0 0), LV.raw (Value.slice (RSpl.bb I) (Int.toNat (if (↑(Msg.dn m - q) : Int) < (↑n : Int) then (↑(Msg.dn m - q) : Int) else (↑n : Int)) - 0) (RSpl.cc I - 0))] 39), (0, LO.lay [LV.int IntKind.u16 (Msg.stream m), LV.bool (Msg.unord m), LV.int IntKind.u32 (Msg.ppid m), LV.raw (Value.slice (Msg.db m) (Msg.dn m) (Msg.dc m))] 26)], nx := 2, orc := [] }))))) (Res.leave Leave.ret { stk := [It.code [1, 1, 1, 1, 1, 1, 1, 1]], fr := [(9, LV.int IntKind.i64 (0 : Int)), (8, LV.raw (Value.slice (RSpl.base I) (RSpl.k I) (RSpl.cap I))), (11, LV.raw (Value.slice (RSpl.bb I) (Msg.dn m - q) (RSpl.cc I))), (10, LV.raw (Value.slice (RSpl.base I) (RSpl.k I) (RSpl.cap I))), (4, LV.ptr 0 0), (1, LV.int IntKind.u32 tsn), (2, LV.int IntKind.u16 inn), (3, LV.int IntKind.i64 (↑n : Int))], H := [(0, LO.lay [LV.int IntKind.u16 (Msg.stream m), LV.bool (Msg.unord m), LV.int IntKind.u32 (Msg.ppid m), LV.raw (Value.slice (Msg.db m) (Msg.dn m) (Msg.dc m))] 26)], nx := 1, orc := [] })) (by kernel_rfl) ?_
  refine ⟨fun hlt => ?_, fun hge => leave_ok (fun _ => nofun) rfl fun w hs => ?_⟩
  · have hlt' : q < m.dn := by simp at hlt; omega
    obtain ⟨hbb, hcc⟩ := hat hlt'
    obtain ⟨e, he⟩ : ∃ e, e = min n (m.dn - q) := ⟨_, rfl⟩
    have hmin : (if ((m.dn - q : Nat) : Int) < (n : Int) then ((m.dn - q : Nat) : Int) else (n : Int)) = (e : Int) := by rw [he]; split <;> omega
    rw [hmin, show (e : Int).toNat = e by omega, Nat.sub_zero, Nat.sub_zero]
    have hpl : (piece m n I.k).length = e := by simp [piece, hlen, he, ← hq]
    have t18 : ∀ fl, fl = rflag m n I.k → ∀ b5, Go Try.prog none 9 (RetQ Try.prog Try.f9 R) (cfg9 w0) [] (own 39 12 I.base I.k I.cap ((rpcs m tsn inn n I.k).flatMap Chk.cells) * 1) [b4, b5]
        [(13, .ptr 1 0), (12, .int .i64 e), (11, .raw (.slice I.bb (m.dn - q) I.cc)), (10, .raw (.slice I.base I.k I.cap)), (4, .ptr 0 0), (1, .int .u32 tsn), (2, .int .u16 inn), (3, .int .i64 n)]
        ((1, .lay (rL m fl inn (tsnAt tsn I.k) (.raw (.slice I.bb e I.cc))) 39) :: mH m) [.code [1, 1, 1, 1, 1, 1, 0, 0, 0, 1, 0, 1, 1, 1, 1, 1, 0], .code [1, 1, 1, 1, 1, 1, 0, 0, 0, 1, 0, 1, 1, 1, 1, 1, 1], .blk 1, .lp [1, 1, 1, 1, 1, 1, 0, 0, 0], .blk 0, .code [1, 1, 1, 1, 1, 1, 1]] := by
      intro fl hfl b5
      refine Go.run mixed 300 [] rfl ?_
      refine Ok.eq (r' := Res.need [fun x ↦ Value.one (Value.slice (RSpl.bb I) e (RSpl.cc I)) = true] (Res.new (Res.stop { stk := [It.reg [1, 1, 1, 1, 1, 1, 0, 0, 0, 1, 0, 1, 1, 1, 1, 1, 0] [3, 4], It.code [1, 1, 1, 1, 1, 1, 0, 0, 0, 1, 0, 1, 1, 1, 1, 1, 1], It.blk 1, It.lp [1, 1, 1, 1, 1, 1, 0, 0, 0], It.blk 0, It.code [1, 1, 1, 1, 1, 1, 1]], fr := [(78, LV.sl 2 0 1 1), (77, LV.agg [LV.int IntKind.u8 (0 : Int), LV.int IntKind.u8 fl, LV.int IntKind.u32 (tsnAt tsn (RSpl.k I)), LV.int IntKind.u32 (0 : Int), LV.int IntKind.u16 (Msg.stream m), LV.int IntKind.u16 inn, LV.int IntKind.u32 (Msg.ppid m), LV.cst (Value.slice none 0 0), LV.cst (Value.slice none 0 0), LV.cst (Value.slice none 0 0), LV.cst (Value.slice none 0 0), LV.raw (Value.slice (RSpl.bb I) e (RSpl.cc I))]), (76, LV.raw (Value.slice (RSpl.base I) (RSpl.k I) (RSpl.cap I))), (13, LV.ptr 1 0), (12, LV.int IntKind.i64 (↑e : Int)), (11, LV.raw (Value.slice (RSpl.bb I) (Msg.dn m - q) (RSpl.cc I))), (10, LV.raw (Value.slice (RSpl.base I) (RSpl.k I) (RSpl.cap I))), (4, LV.ptr 0 0), (1, LV.int IntKind.u32 tsn), (2, LV.int IntKind.u16 inn), (3, LV.int IntKind.i64 (↑n : Int))], H := [(2, LO.lay [LV.int IntKind.u8 (0 : Int), LV.int IntKind.u8 fl, LV.int IntKind.u32 (tsnAt tsn (RSpl.k I)), LV.int IntKind.u32 (0 : Int), LV.int IntKind.u16 (Msg.stream m), LV.int IntKind.u16 inn, LV.int IntKind.u32 (Msg.ppid m), LV.cst (Value.slice none 0 0), LV.cst (Value.slice none 0 0), LV.cst (Value.slice none 0 0), LV.cst (Value.slice none 0 0), LV.raw (Value.slice (RSpl.bb I) e (RSpl.cc I))] 39), (1, LO.lay [LV.int IntKind.u8 (0 : Int), LV.int IntKind.u8 fl, LV.int IntKind.u32 (tsnAt tsn (RSpl.k I)), LV.int IntKind.u32 (0 : Int), LV.int IntKind.u16 (Msg.stream m), LV.int IntKind.u16 inn, LV.int IntKind.u32 (Msg.ppid m), LV.cst (Value.slice none 0 0), LV.cst (Value.slice none 0 0), LV.cst (Value.slice none 0 0), LV.cst (Value.slice none 0 0), LV.raw (Value.slice (RSpl.bb I) e (RSpl.cc I))] 39), (0, LO.lay [LV.int IntKind.u16 (Msg.stream m), LV.bool (Msg.unord m), LV.int IntKind.u32 (Msg.ppid m), LV.raw (Value.slice (Msg.db m) (Msg.dn m) (Msg.dc m))] 26)], nx := 3, orc := [] }))) (by kernel_rfl) ?_
      refine ⟨⟨rfl, trivial⟩, fun b6 => fun _ => ?_⟩
      refine Go.append (base := I.base) (n := I.k) (c := I.cap) (e := 39) (sz := 12) 1 rfl rfl rfl rfl rfl rfl rfl rfl rfl rfl rfl fun w hs => ?_
      refine ⟨(rpcs m tsn inn n I.k).flatMap Chk.cells, (rpc m tsn inn n I.k).cells, 1, mH m, ?_, ?_, ?_, ?_, fun base' c' => ?_⟩
      · refine Sat.right (p := pt b5 (.cells (rpc m tsn inn n I.k).cells.toArray 39)) (Sat.right (p := pt b6 (.cells (rpc m tsn inn n I.k).cells.toArray 39)) (hs.eq ?_))
        simp [satH, atom, denO, bk, mul_one, denL, den, star_assoc, rpc, Chk.cells, hpl, hbb, hcc, hfl, ← hq]
        ac_rfl
      · have hbl : w.heap[b6]? = some (.cells (rpc m tsn inn n I.k).cells.toArray 39) := by
          refine Sat.get (F := satH w0 [b4, b5] ((1, .lay (rL m fl inn (tsnAt tsn I.k) (.raw (.slice I.bb e I.cc))) 39) :: mH m) * (own 39 12 I.base I.k I.cap ((rpcs m tsn inn n I.k).flatMap Chk.cells) * 1)) (hs.eq ?_)
          simp [satH, atom, denO, bk, mul_one, denL, den, star_assoc, rpc, Chk.cells, hpl, hbb, hcc, hfl, ← hq]
        exact Src.of_block (tx := 28) (e' := 39) rfl hbl rfl (fun j u hj => by simpa using hj) (by simp [rpc, Chk.cells, Value.one])
      · show (I.k + 1) * 144 ≤ _
        omega
      · omega
      refine Go.run mixed 300 [] rfl ?_
      refine Ok.eq (r' := Res.need [fun x ↦ (0 : Int) ≤ (↑e : Int) ∧ (↑e : Int) ≤ (↑(Msg.dn m - q) : Int)] (Res.stop { stk := [It.lp [1, 1, 1, 1, 1, 1, 0, 0, 0], It.blk 0, It.code [1, 1, 1, 1, 1, 1, 1]], fr := [(11, LV.raw (Value.slice (if RSpl.cc I = Int.toNat (↑e : Int) then RSpl.bb I else Option.map (fun a ↦ Addr.add a (Int.toNat (↑e : Int) * 1)) (RSpl.bb I)) (Msg.dn m - q - Int.toNat (↑e : Int)) (RSpl.cc I - Int.toNat (↑e : Int)))), (10, LV.raw (Value.slice base' (RSpl.k I + 1) c')), (13, LV.ptr 1 0), (12, LV.int IntKind.i64 (↑e : Int)), (4, LV.ptr 0 0), (1, LV.int IntKind.u32 tsn), (2, LV.int IntKind.u16 inn), (3, LV.int IntKind.i64 (↑n : Int))], H := [(0, LO.lay [LV.int IntKind.u16 (Msg.stream m), LV.bool (Msg.unord m), LV.int IntKind.u32 (Msg.ppid m), LV.raw (Value.slice (Msg.db m) (Msg.dn m) (Msg.dc m))] 26)], nx := 3, orc := [] })) (by kernel_rfl) ?_
      have hat2 : (I.k + 1) * n < m.dn → (if I.cc = e then I.bb else I.bb.map fun a => a.add e) = (m.db.map fun a => a.add ((I.k + 1) * n)) ∧ I.cc - e = m.dc - (I.k + 1) * n := fun h => by
        rw [hq1] at h ⊢
        have he2 : e = n := by omega
        rw [if_neg (by omega), hbb, he2]
        refine ⟨?_, by omega⟩
        cases m.db <;> simp [E.Addr.add_add]
      have hrec := rec ⟨I.k + 1, if I.cc = e then I.bb else I.bb.map fun a => a.add e, I.cc - e, base', c', hat2, .inr (by rw [Nat.add_sub_cancel, ← hq]; exact hlt')⟩ (by show m.dn - (I.k + 1) * n < m.dn - I.k * n; rw [hq1, ← hq]; omega)
      dsimp only at hrec
      rw [hq1, rpcs_snoc, List.flatMap_append, List.flatMap_singleton] at hrec
      rw [show (e : Int).toNat = e by omega, Nat.mul_one, show m.dn - q - e = m.dn - (q + n) by omega]
      exact ⟨⟨by omega, trivial⟩, fun _ => Go.again hrec (fun _ => rfl) fun w hs => ⟨⟨rfl, rfl, rfl, rfl, rfl, rfl, trivial⟩, rfl, hs⟩⟩
    have t16 : ∀ fl, fl = rfl1 m n I.k → ∀ b5, Go Try.prog none 9 (RetQ Try.prog Try.f9 R) (cfg9 w0) [] (own 39 12 I.base I.k I.cap ((rpcs m tsn inn n I.k).flatMap Chk.cells) * 1) [b4, b5]
        [(13, .ptr 1 0), (12, .int .i64 e), (11, .raw (.slice I.bb (m.dn - q) I.cc)), (10, .raw (.slice I.base I.k I.cap)), (4, .ptr 0 0), (1, .int .u32 tsn), (2, .int .u16 inn), (3, .int .i64 n)]
        ((1, .lay (rL m fl inn (tsnAt tsn I.k) (.raw (.slice I.bb e I.cc))) 39) :: mH m) [.code [1, 1, 1, 1, 1, 1, 0, 0, 0, 1, 0, 1, 1, 1, 1, 0, 0], .code [1, 1, 1, 1, 1, 1, 0, 0, 0, 1, 0, 1, 1, 1, 1, 0, 1], .code [1, 1, 1, 1, 1, 1, 0, 0, 0, 1, 0, 1, 1, 1, 1, 1], .blk 1, .lp [1, 1, 1, 1, 1, 1, 0, 0, 0], .blk 0, .code [1, 1, 1, 1, 1, 1, 1]] := by
      intro fl hfl b5
      refine Go.runS mixed 300 [] [18] rfl ?_
      refine Ok.eq (r' := Res.ite (Msg.unord m) (Res.stop { stk := [It.code [1, 1, 1, 1, 1, 1, 0, 0, 0, 1, 0, 1, 1, 1, 1, 1, 0], It.code [1, 1, 1, 1, 1, 1, 0, 0, 0, 1, 0, 1, 1, 1, 1, 1, 1], It.blk 1, It.lp [1, 1, 1, 1, 1, 1, 0, 0, 0], It.blk 0, It.code [1, 1, 1, 1, 1, 1, 1]], fr := [(13, LV.ptr 1 0), (12, LV.int IntKind.i64 (↑e : Int)), (11, LV.raw (Value.slice (RSpl.bb I) (Msg.dn m - q) (RSpl.cc I))), (10, LV.raw (Value.slice (RSpl.base I) (RSpl.k I) (RSpl.cap I))), (4, LV.ptr 0 0), (1, LV.int IntKind.u32 tsn), (2, LV.int IntKind.u16 inn), (3, LV.int IntKind.i64 (↑n : Int))], H := [(1, LO.lay [LV.int IntKind.u8 (0 : Int), LV.int IntKind.u8 (IntKind.wrap IntKind.u8 (fl + (4 : Int))), LV.int IntKind.u32 (tsnAt tsn (RSpl.k I)), LV.int IntKind.u32 (0 : Int), LV.int IntKind.u16 (Msg.stream m), LV.int IntKind.u16 inn, LV.int IntKind.u32 (Msg.ppid m), LV.cst (Value.slice none 0 0), LV.cst (Value.slice none 0 0), LV.cst (Value.slice none 0 0), LV.cst (Value.slice none 0 0), LV.raw (Value.slice (RSpl.bb I) e (RSpl.cc I))] 39), (0, LO.lay [LV.int IntKind.u16 (Msg.stream m), LV.bool (Msg.unord m), LV.int IntKind.u32 (Msg.ppid m), LV.raw (Value.slice (Msg.db m) (Msg.dn m) (Msg.dc m))] 26)], nx := 2, orc := [] }) (Res.stop { stk := [It.code [1, 1, 1, 1, 1, 1, 0, 0, 0, 1, 0, 1, 1, 1, 1, 1, 0], It.code [1, 1, 1, 1, 1, 1, 0, 0, 0, 1, 0, 1, 1, 1, 1, 1, 1], It.blk 1, It.lp [1, 1, 1, 1, 1, 1, 0, 0, 0], It.blk 0, It.code [1, 1, 1, 1, 1, 1, 1]], fr := [(13, LV.ptr 1 0), (12, LV.int IntKind.i64 (↑e : Int)), (11, LV.raw (Value.slice (RSpl.bb I) (Msg.dn m - q) (RSpl.cc I))), (10, LV.raw (Value.slice (RSpl.base I) (RSpl.k I) (RSpl.cap I))), (4, LV.ptr 0 0), (1, LV.int IntKind.u32 tsn), (2, LV.int IntKind.u16 inn), (3, LV.int IntKind.i64 (↑n : Int))], H := [(1, LO.lay [LV.int IntKind.u8 (0 : Int), LV.int IntKind.u8 fl, LV.int IntKind.u32 (tsnAt tsn (RSpl.k I)), LV.int IntKind.u32 (0 : Int), LV.int IntKind.u16 (Msg.stream m), LV.int IntKind.u16 inn, LV.int IntKind.u32 (Msg.ppid m), LV.cst (Value.slice none 0 0), LV.cst (Value.slice none 0 0), LV.cst (Value.slice none 0 0), LV.cst (Value.slice none 0 0), LV.raw (Value.slice (RSpl.bb I) e (RSpl.cc I))] 39), (0, LO.lay [LV.int IntKind.u16 (Msg.stream m), LV.bool (Msg.unord m), LV.int IntKind.u32 (Msg.ppid m), LV.raw (Value.slice (Msg.db m) (Msg.dn m) (Msg.dc m))] 26)], nx := 2, orc := [] })) (by kernel_rfl) ?_
      refine ⟨fun hu => fun _ => Go.again (t18 _ (by simp [rflag, hu, hfl, w8]) b5) (fun _ => rfl) fun w hs => ⟨⟨rfl, rfl, rfl, rfl, rfl, rfl, rfl, rfl, trivial⟩, rfl, hs⟩, fun hu => fun _ => Go.again (t18 _ (by simp [rflag, hu, hfl]) b5) (fun _ => rfl) fun w hs => ⟨⟨rfl, rfl, rfl, rfl, rfl, rfl, rfl, rfl, trivial⟩, rfl, hs⟩⟩
    have t14 : ∀ fl, fl = rfl0 I.k → ∀ b5, Go Try.prog none 9 (RetQ Try.prog Try.f9 R) (cfg9 w0) [] (own 39 12 I.base I.k I.cap ((rpcs m tsn inn n I.k).flatMap Chk.cells) * 1) [b4, b5]
        [(13, .ptr 1 0), (12, .int .i64 e), (11, .raw (.slice I.bb (m.dn - q) I.cc)), (10, .raw (.slice I.base I.k I.cap)), (4, .ptr 0 0), (1, .int .u32 tsn), (2, .int .u16 inn), (3, .int .i64 n)]
        ((1, .lay (rL m fl inn (tsnAt tsn I.k) (.raw (.slice I.bb e I.cc))) 39) :: mH m) [.code [1, 1, 1, 1, 1, 1, 0, 0, 0, 1, 0, 1, 1, 1, 0, 0], .code [1, 1, 1, 1, 1, 1, 0, 0, 0, 1, 0, 1, 1, 1, 0, 1], .code [1, 1, 1, 1, 1, 1, 0, 0, 0, 1, 0, 1, 1, 1, 1], .blk 1, .lp [1, 1, 1, 1, 1, 1, 0, 0, 0], .blk 0, .code [1, 1, 1, 1, 1, 1, 1]] := by
      intro fl hfl b5
      refine Go.runS mixed 300 [] [16] rfl ?_
      refine Ok.eq (r' := Res.ite ((↑e : Int) == (↑(Msg.dn m - q) : Int)) (Res.stop { stk := [It.code [1, 1, 1, 1, 1, 1, 0, 0, 0, 1, 0, 1, 1, 1, 1, 0, 0], It.code [1, 1, 1, 1, 1, 1, 0, 0, 0, 1, 0, 1, 1, 1, 1, 0, 1], It.code [1, 1, 1, 1, 1, 1, 0, 0, 0, 1, 0, 1, 1, 1, 1, 1], It.blk 1, It.lp [1, 1, 1, 1, 1, 1, 0, 0, 0], It.blk 0, It.code [1, 1, 1, 1, 1, 1, 1]], fr := [(13, LV.ptr 1 0), (12, LV.int IntKind.i64 (↑e : Int)), (11, LV.raw (Value.slice (RSpl.bb I) (Msg.dn m - q) (RSpl.cc I))), (10, LV.raw (Value.slice (RSpl.base I) (RSpl.k I) (RSpl.cap I))), (4, LV.ptr 0 0), (1, LV.int IntKind.u32 tsn), (2, LV.int IntKind.u16 inn), (3, LV.int IntKind.i64 (↑n : Int))], H := [(1, LO.lay [LV.int IntKind.u8 (0 : Int), LV.int IntKind.u8 (IntKind.wrap IntKind.u8 (fl + (1 : Int))), LV.int IntKind.u32 (tsnAt tsn (RSpl.k I)), LV.int IntKind.u32 (0 : Int), LV.int IntKind.u16 (Msg.stream m), LV.int IntKind.u16 inn, LV.int IntKind.u32 (Msg.ppid m), LV.cst (Value.slice none 0 0), LV.cst (Value.slice none 0 0), LV.cst (Value.slice none 0 0), LV.cst (Value.slice none 0 0), LV.raw (Value.slice (RSpl.bb I) e (RSpl.cc I))] 39), (0, LO.lay [LV.int IntKind.u16 (Msg.stream m), LV.bool (Msg.unord m), LV.int IntKind.u32 (Msg.ppid m), LV.raw (Value.slice (Msg.db m) (Msg.dn m) (Msg.dc m))] 26)], nx := 2, orc := [] }) (Res.stop { stk := [It.code [1, 1, 1, 1, 1, 1, 0, 0, 0, 1, 0, 1, 1, 1, 1, 0, 0], It.code [1, 1, 1, 1, 1, 1, 0, 0, 0, 1, 0, 1, 1, 1, 1, 0, 1], It.code [1, 1, 1, 1, 1, 1, 0, 0, 0, 1, 0, 1, 1, 1, 1, 1], It.blk 1, It.lp [1, 1, 1, 1, 1, 1, 0, 0, 0], It.blk 0, It.code [1, 1, 1, 1, 1, 1, 1]], fr := [(13, LV.ptr 1 0), (12, LV.int IntKind.i64 (↑e : Int)), (11, LV.raw (Value.slice (RSpl.bb I) (Msg.dn m - q) (RSpl.cc I))), (10, LV.raw (Value.slice (RSpl.base I) (RSpl.k I) (RSpl.cap I))), (4, LV.ptr 0 0), (1, LV.int IntKind.u32 tsn), (2, LV.int IntKind.u16 inn), (3, LV.int IntKind.i64 (↑n : Int))], H := [(1, LO.lay [LV.int IntKind.u8 (0 : Int), LV.int IntKind.u8 fl, LV.int IntKind.u32 (tsnAt tsn (RSpl.k I)), LV.int IntKind.u32 (0 : Int), LV.int IntKind.u16 (Msg.stream m), LV.int IntKind.u16 inn, LV.int IntKind.u32 (Msg.ppid m), LV.cst (Value.slice none 0 0), LV.cst (Value.slice none 0 0), LV.cst (Value.slice none 0 0), LV.cst (Value.slice none 0 0), LV.raw (Value.slice (RSpl.bb I) e (RSpl.cc I))] 39), (0, LO.lay [LV.int IntKind.u16 (Msg.stream m), LV.bool (Msg.unord m), LV.int IntKind.u32 (Msg.ppid m), LV.raw (Value.slice (Msg.db m) (Msg.dn m) (Msg.dc m))] 26)], nx := 2, orc := [] })) (by kernel_rfl) ?_
      refine ⟨fun hu => fun _ => Go.again (t16 _ ?_ b5) (fun _ => rfl) fun w hs => ⟨⟨rfl, rfl, rfl, rfl, rfl, rfl, rfl, rfl, trivial⟩, rfl, hs⟩, fun hu => fun _ => Go.again (t16 _ ?_ b5) (fun _ => rfl) fun w hs => ⟨⟨rfl, rfl, rfl, rfl, rfl, rfl, rfl, rfl, trivial⟩, rfl, hs⟩⟩
      · have : m.dn ≤ (I.k + 1) * n := by simp at hu; omega
        simp [rfl1, this, hfl, w8]
      · have : ¬ m.dn ≤ (I.k + 1) * n := by simp at hu; omega
        simp [rfl1, this, hfl]
    refine ⟨⟨by omega, trivial⟩, ⟨rfl, trivial⟩, fun b5 => ⟨⟨rfl, trivial⟩, fun _ => ?_⟩⟩
    refine Go.runS mixed 300 [] [14] rfl ?_
    refine Ok.eq (r' := Res.ite ((↑(RSpl.k I) : Int) == (0 : Int)) (Res.stop { stk := [It.code [1, 1, 1, 1, 1, 1, 0, 0, 0, 1, 0, 1, 1, 1, 0, 0], It.code [1, 1, 1, 1, 1, 1, 0, 0, 0, 1, 0, 1, 1, 1, 0, 1], It.code [1, 1, 1, 1, 1, 1, 0, 0, 0, 1, 0, 1, 1, 1, 1], It.blk 1, It.lp [1, 1, 1, 1, 1, 1, 0, 0, 0], It.blk 0, It.code [1, 1, 1, 1, 1, 1, 1]], fr := [(13, LV.ptr 1 0), (12, LV.int IntKind.i64 (↑e : Int)), (11, LV.raw (Value.slice (RSpl.bb I) (Msg.dn m - q) (RSpl.cc I))), (10, LV.raw (Value.slice (RSpl.base I) (RSpl.k I) (RSpl.cap I))), (4, LV.ptr 0 0), (1, LV.int IntKind.u32 tsn), (2, LV.int IntKind.u16 inn), (3, LV.int IntKind.i64 (↑n : Int))], H := [(1, LO.lay [LV.int IntKind.u8 (0 : Int), LV.int IntKind.u8 (IntKind.wrap IntKind.u8 ((0 : Int) + (2 : Int))), LV.int IntKind.u32 (IntKind.wrap IntKind.u32 (tsn + IntKind.wrap IntKind.u32 (↑(RSpl.k I) : Int))), LV.int IntKind.u32 (0 : Int), LV.int IntKind.u16 (Msg.stream m), LV.int IntKind.u16 inn, LV.int IntKind.u32 (Msg.ppid m), LV.cst (Value.slice none 0 0), LV.cst (Value.slice none 0 0), LV.cst (Value.slice none 0 0), LV.cst (Value.slice none 0 0), LV.raw (Value.slice (RSpl.bb I) e (RSpl.cc I))] 39), (0, LO.lay [LV.int IntKind.u16 (Msg.stream m), LV.bool (Msg.unord m), LV.int IntKind.u32 (Msg.ppid m), LV.raw (Value.slice (Msg.db m) (Msg.dn m) (Msg.dc m))] 26)], nx := 2, orc := [] }) (Res.stop { stk := [It.code [1, 1, 1, 1, 1, 1, 0, 0, 0, 1, 0, 1, 1, 1, 0, 0], It.code [1, 1, 1, 1, 1, 1, 0, 0, 0, 1, 0, 1, 1, 1, 0, 1], It.code [1, 1, 1, 1, 1, 1, 0, 0, 0, 1, 0, 1, 1, 1, 1], It.blk 1, It.lp [1, 1, 1, 1, 1, 1, 0, 0, 0], It.blk 0, It.code [1, 1, 1, 1, 1, 1, 1]], fr := [(13, LV.ptr 1 0), (12, LV.int IntKind.i64 (↑e : Int)), (11, LV.raw (Value.slice (RSpl.bb I) (Msg.dn m - q) (RSpl.cc I))), (10, LV.raw (Value.slice (RSpl.base I) (RSpl.k I) (RSpl.cap I))), (4, LV.ptr 0 0), (1, LV.int IntKind.u32 tsn), (2, LV.int IntKind.u16 inn), (3, LV.int IntKind.i64 (↑n : Int))], H := [(1, LO.lay [LV.int IntKind.u8 (0 : Int), LV.int IntKind.u8 (0 : Int), LV.int IntKind.u32 (IntKind.wrap IntKind.u32 (tsn + IntKind.wrap IntKind.u32 (↑(RSpl.k I) : Int))), LV.int IntKind.u32 (0 : Int), LV.int IntKind.u16 (Msg.stream m), LV.int IntKind.u16 inn, LV.int IntKind.u32 (Msg.ppid m), LV.cst (Value.slice none 0 0), LV.cst (Value.slice none 0 0), LV.cst (Value.slice none 0 0), LV.cst (Value.slice none 0 0), LV.raw (Value.slice (RSpl.bb I) e (RSpl.cc I))] 39), (0, LO.lay [LV.int IntKind.u16 (Msg.stream m), LV.bool (Msg.unord m), LV.int IntKind.u32 (Msg.ppid m), LV.raw (Value.slice (Msg.db m) (Msg.dn m) (Msg.dc m))] 26)], nx := 2, orc := [] })) (by kernel_rfl) ?_
    refine ⟨fun hu => fun _ => Go.again (t14 _ ?_ b5) (fun _ => rfl) fun w hs => ⟨⟨rfl, rfl, rfl, rfl, rfl, rfl, rfl, rfl, trivial⟩, rfl, hs⟩, fun hu => fun _ => Go.again (t14 _ ?_ b5) (fun _ => rfl) fun w hs => ⟨⟨rfl, rfl, rfl, rfl, rfl, rfl, rfl, rfl, trivial⟩, rfl, hs⟩⟩
    · have : I.k = 0 := by simp at hu; omega
      simp [rfl0, this, w8]
    · have : ¬ I.k = 0 := by simp at hu; omega
      simp [rfl0, this]
  · have hge' : m.dn ≤ q := by simp at hge; omega
    have hk0 : 0 < I.k := by
      rcases Nat.eq_zero_or_pos I.k with h | h
      · rw [h] at hq; omega
      · exact h
    exact hR I.k w I.base I.cap hk0 (hq ▸ hge') (I.lt.resolve_left (by omega)) hs.right

def RSplitR (m : Msg) (tsn ssn most : Int) (w : World) (e : Ending) (w' : World) : Prop :=
  if m.dn = 0 ∨ most < 1 ∨ most > 1172 then e = .returned (.tuple #[.slice none 0 0, .int .i64 1]) ∧ Sat w 1 w'
  else if m.dn > 16384 then e = .returned (.tuple #[.slice none 0 0, .int .i64 10]) ∧ Sat w 1 w'
  else ∃ (k : Nat) (base : Option Addr) (c : Nat), 0 < k ∧ m.dn ≤ k * most.toNat ∧ (k - 1) * most.toNat < m.dn ∧ e = .returned (.tuple #[.slice base k c, .int .i64 0]) ∧
    Sat w (own 39 12 base k c ((rpcs m tsn (in0 m ssn) most.toNat k).flatMap Chk.cells) * 1) w'

set_option maxHeartbeats 400000 in
set_option maxRecDepth 100000 in
theorem rsplit_spec (m : Msg) (tsn ssn most : Int) (w : World) (hlen : m.bytes.length = m.dn) (hcap : m.dn ≤ m.dc) (hcb : m.dc ≤ 9223372036854775807) :
    Calls Try.prog 9 #[m.val, .int .u32 tsn, .int .u16 ssn, .int .i64 most] w (RSplitR m tsn ssn most w) := by
  refine Calls.enter (cfg := cfg9 w) (β := []) (H := []) (F := 1) (l := [m.lv, .int .u32 tsn, .int .u16 ssn, .int .i64 most]) Try.func9 rfl rfl (Nat.le_of_ble_eq_true rfl) rfl ((Sat.refl w).eq (one_mul 1).symm) ?_
  refine Go.run mixed 300 [] rfl ?_
  refine Ok.eq (r' := Res.need [fun x ↦ Value.one (Value.slice (Msg.db m) (Msg.dn m) (Msg.dc m)) = true] (Res.new (Res.ite ((↑(Msg.dn m) : Int) == (0 : Int) || decide (most < (1 : Int)) || decide (most > (1172 : Int))) (Res.leave Leave.ret { stk := [It.code [1, 0, 1, 0, 1], It.code [1, 1]], fr := [(9, LV.int IntKind.i64 (1 : Int)), (8, LV.cst (Value.slice none 0 0)), (4, LV.ptr 0 0), (0, LV.agg [LV.int IntKind.u16 (Msg.stream m), LV.bool (Msg.unord m), LV.int IntKind.u32 (Msg.ppid m), LV.raw (Value.slice (Msg.db m) (Msg.dn m) (Msg.dc m))]), (1, LV.int IntKind.u32 tsn), (2, LV.int IntKind.u16 ssn), (3, LV.int IntKind.i64 most)], H := [(0, LO.lay [LV.int IntKind.u16 (Msg.stream m), LV.bool (Msg.unord m), LV.int IntKind.u32 (Msg.ppid m), LV.raw (Value.slice (Msg.db m) (Msg.dn m) (Msg.dc m))] 26)], nx := 1, orc := [] }) (Res.ite (decide ((↑(Msg.dn m) : Int) > (16384 : Int))) (Res.leave Leave.ret { stk := [It.code [1, 1, 0, 1, 0, 1], It.code [1, 1, 1]], fr := [(9, LV.int IntKind.i64 (10 : Int)), (8, LV.cst (Value.slice none 0 0)), (4, LV.ptr 0 0), (0, LV.agg [LV.int IntKind.u16 (Msg.stream m), LV.bool (Msg.unord m), LV.int IntKind.u32 (Msg.ppid m), LV.raw (Value.slice (Msg.db m) (Msg.dn m) (Msg.dc m))]), (1, LV.int IntKind.u32 tsn), (2, LV.int IntKind.u16 ssn), (3, LV.int IntKind.i64 most)], H := [(0, LO.lay [LV.int IntKind.u16 (Msg.stream m), LV.bool (Msg.unord m), LV.int IntKind.u32 (Msg.ppid m), LV.raw (Value.slice (Msg.db m) (Msg.dn m) (Msg.dc m))] 26)], nx := 1, orc := [] }) (Res.ite (Msg.unord m) (Res.stop { stk := [It.code [1, 1, 1, 1, 1, 1, 0, 0], It.blk 0, It.code [1, 1, 1, 1, 1, 1, 1]], fr := [(11, LV.raw (Value.slice (Msg.db m) (Msg.dn m) (Msg.dc m))), (10, LV.cst (Value.slice none 0 0)), (2, LV.int IntKind.u16 (0 : Int)), (9, LV.int IntKind.i64 (0 : Int)), (8, LV.cst (Value.slice none 0 0)), (4, LV.ptr 0 0), (0, LV.agg [LV.int IntKind.u16 (Msg.stream m), LV.bool (Msg.unord m), LV.int IntKind.u32 (Msg.ppid m), LV.raw (Value.slice (Msg.db m) (Msg.dn m) (Msg.dc m))]), (1, LV.int IntKind.u32 tsn), (3, LV.int IntKind.i64 most)], H := [(0, LO.lay [LV.int IntKind.u16 (Msg.stream m), LV.bool (Msg.unord m), LV.int IntKind.u32 (Msg.ppid m), LV.raw (Value.slice (Msg.db m) (Msg.dn m) (Msg.dc m))] 26)], nx := 1, orc := [] }) (Res.stop { stk := [It.code [1, 1, 1, 1, 1, 1, 0, 0], It.blk 0, It.code [1, 1, 1, 1, 1, 1, 1]], fr := [(11, LV.raw (Value.slice (Msg.db m) (Msg.dn m) (Msg.dc m))), (10, LV.cst (Value.slice none 0 0)), (9, LV.int IntKind.i64 (0 : Int)), (8, LV.cst (Value.slice none 0 0)), (4, LV.ptr 0 0), (0, LV.agg [LV.int IntKind.u16 (Msg.stream m), LV.bool (Msg.unord m), LV.int IntKind.u32 (Msg.ppid m), LV.raw (Value.slice (Msg.db m) (Msg.dn m) (Msg.dc m))]), (1, LV.int IntKind.u32 tsn), (2, LV.int IntKind.u16 ssn), (3, LV.int IntKind.i64 most)], H := [(0, LO.lay [LV.int IntKind.u16 (Msg.stream m), LV.bool (Msg.unord m), LV.int IntKind.u32 (Msg.ppid m), LV.raw (Value.slice (Msg.db m) (Msg.dn m) (Msg.dc m))] 26)], nx := 1, orc := [] })))))) (by kernel_rfl) ?_
  refine ⟨⟨rfl, trivial⟩, fun b4 => ⟨fun hbad => ?_, fun hgood => ⟨fun hbig => ?_, fun hsm => ?_⟩⟩⟩
  · refine leave_ok (fun _ => nofun) rfl fun w hs => ?_
    have : m.dn = 0 ∨ most < 1 ∨ most > 1172 := by simp at hbad; omega
    unfold RSplitR
    rw [if_pos this]
    exact ⟨rfl, hs.right⟩
  · refine leave_ok (fun _ => nofun) rfl fun w hs => ?_
    have h1 : ¬ (m.dn = 0 ∨ most < 1 ∨ most > 1172) := by simp at hgood; omega
    have h2 : m.dn > 16384 := by simp at hbig; omega
    unfold RSplitR
    rw [if_neg h1, if_pos h2]
    exact ⟨rfl, hs.right⟩
  · have h1 : ¬ (m.dn = 0 ∨ most < 1 ∨ most > 1172) := by simp at hgood; omega
    have h2 : ¬ m.dn > 16384 := by simp at hsm; omega
    obtain ⟨n, rfl⟩ : ∃ n : Nat, most = (n : Int) := ⟨most.toNat, by omega⟩
    have hend : ∀ k w' base c, 0 < k → m.dn ≤ k * n → (k - 1) * n < m.dn →
        Sat w (own 39 12 base k c ((rpcs m tsn (in0 m ssn) n k).flatMap Chk.cells) * 1) w' → RSplitR m tsn ssn n w (.returned (.tuple #[.slice base k c, .int .i64 0])) w' := fun k w' base c g1 g2 g3 g4 => by
      unfold RSplitR
      rw [if_neg h1, if_neg h2]
      exact ⟨k, base, c, g1, g2, g3, rfl, g4⟩
    refine ⟨fun hu => fun _ => ?_, fun hu => fun _ => ?_⟩
    · exact Go.again (rsplit_rest m tsn 0 n b4 (by omega) (by omega) (by omega) (by omega) hlen hcap hcb (fun k w base c g1 g2 g3 g4 => hend k w base c g1 g2 g3 (by simpa [in0, hu] using g4))) (fun _ => rfl) fun w hs => ⟨⟨rfl, rfl, rfl, rfl, rfl, rfl, trivial⟩, rfl, hs⟩
    · exact Go.again (rsplit_rest m tsn ssn n b4 (by omega) (by omega) (by omega) (by omega) hlen hcap hcb (fun k w base c g1 g2 g3 g4 => hend k w base c g1 g2 g3 (by simpa [in0, hu] using g4))) (fun _ => rfl) fun w hs => ⟨⟨rfl, rfl, rfl, rfl, rfl, rfl, trivial⟩, rfl, hs⟩

end Go.Proofs.Ytlgggljlegpaoaa
