/- Layer 13: 'Split', walked. -/
import Derived.Test.YtlgggljlegpaoaaA1
namespace Go.Proofs.Ytlgggljlegpaoaa
open Go Go.E Go.Proofs

theorem chunk0_spec (base : Option Addr) (len cap n : Nat) (hn : 1 ≤ n) (w : World) :
    Calls Try.prog 18 #[.slice base len cap, .int .i64 n] w fun e w' => ∃ bs bn, e = .returned (.func (.func 21) #[] #[.pointer (some ⟨bs, 0, none⟩), .pointer (some ⟨bn, 0, none⟩)]) ∧ Sat w (chunkBoxes bs bn base len cap n 1) w' := by
  refine Calls.enter (cfg := cfg18 w) (β := []) (H := []) (F := 1) (l := [.raw (.slice base len cap), .int .i64 n]) Try.func18 rfl rfl (Nat.le_of_ble_eq_true rfl) rfl ((Sat.refl w).eq (one_mul 1).symm) ?_
  refine Go.run mixed 300 [] rfl ?_
  refine Ok.eq (r' := Res.need [fun x ↦ Value.one (Value.slice base len cap) = true] (Res.new (Res.new (Res.ite (decide ((↑n : Int) < (1 : Int))) (Res.stop { stk := [It.reg [1, 0, 1, 0] [0, 1], It.code [1, 1]], fr := [(4, LV.cst Value.nilFunc), (3, LV.ptr 1 0), (2, LV.ptr 0 0), (0, LV.raw (Value.slice base len cap)), (1, LV.int IntKind.i64 (↑n : Int))], H := [(1, LO.lay [LV.int IntKind.i64 (↑n : Int)] 3), (0, LO.lay [LV.raw (Value.slice base len cap)] 24)], nx := 2, orc := [] }) (Res.leave Leave.ret { stk := [It.code [1, 1, 1]], fr := [(4, LV.fn 21 [LV.ptr 0 0, LV.ptr 1 0]), (3, LV.ptr 1 0), (2, LV.ptr 0 0), (0, LV.raw (Value.slice base len cap)), (1, LV.int IntKind.i64 (↑n : Int))], H := [(1, LO.lay [LV.int IntKind.i64 (↑n : Int)] 3), (0, LO.lay [LV.raw (Value.slice base len cap)] 24)], nx := 2, orc := [] }))))) (by kernel_rfl) ?_
  refine ⟨⟨rfl, trivial⟩, fun bs bn => ⟨fun h => by simp at h; omega, fun _ => leave_ok (fun _ => nofun) rfl fun w hs => ⟨bs, bn, rfl, hs.eq ?_⟩⟩⟩
  simp [chunkBoxes, satH, atom, denO, bk, mul_one, denL, den]
  ac_rfl

structure Chk where
  kind : Int
  flags : Int
  a : Int
  b : Int
  out : Int
  inn : Int
  ppid : Int
  r7 : Value
  r8 : Value
  r9 : Value
  r10 : Value
  db : Option Addr
  dn : Nat
  dc : Nat
  bytes : List Int
def Chk.cells (c : Chk) : List Value := [.int .u8 c.kind, .int .u8 c.flags, .int .u32 c.a, .int .u32 c.b, .int .u16 c.out, .int .u16 c.inn, .int .u32 c.ppid, c.r7, c.r8, c.r9, c.r10, .slice c.db c.dn c.dc]
def Chk.val (c : Chk) : Value := .agg c.cells.toArray
def Chk.own (c : Chk) : HP := Go.E.own 5 1 c.db c.dn c.dc (c.bytes.map (Value.int .u8))
structure Msg where
  stream : Int
  unord : Bool
  ppid : Int
  db : Option Addr
  dn : Nat
  dc : Nat
  bytes : List Int
def Msg.cells (m : Msg) : List Value := [.int .u16 m.stream, .bool m.unord, .int .u32 m.ppid, .slice m.db m.dn m.dc]
def Msg.val (m : Msg) : Value := .agg m.cells.toArray
def Msg.lv (m : Msg) : LV := .agg [.int .u16 m.stream, .bool m.unord, .int .u32 m.ppid, .raw (.slice m.db m.dn m.dc)]

abbrev frS (m : Msg) (tsn ssn most : Int) : Fr := [(11, .ptr 3 0), (10, .ptr 2 0), (9, .int .i64 0), (8, .cst (.slice none 0 0)), (5, .ptr 1 0), (4, .ptr 0 0), (0, .agg [.int .u16 m.stream, .bool m.unord, .int .u32 m.ppid, .raw (.slice m.db m.dn m.dc)]), (1, .int .u32 tsn), (2, .int .u16 ssn), (3, .int .i64 most)]
/-- The variable of the loop: a chunk, as far as it is known. -/
abbrev cL (m : Msg) (f0 inn a : Int) (d : LV) : List LV := [.int .u8 0, .int .u8 f0, .int .u32 a, .int .u32 0, .int .u16 m.stream, .int .u16 inn, .int .u32 m.ppid, .cst (.slice none 0 0), .cst (.slice none 0 0), .cst (.slice none 0 0), .cst (.slice none 0 0), d]
abbrev HS0 (m : Msg) (tsn : Int) : Hp := [(1, .lay [.int .u32 tsn] 23), (0, .lay [.int .u16 m.stream, .bool m.unord, .int .u32 m.ppid, .raw (.slice m.db m.dn m.dc)] 26)]

/-- The k-th piece, with where its octets lie; flags as in the loop. -/
def piece (m : Msg) (n k : Nat) : List Int := (m.bytes.drop (k * n)).take n
def tsnAt (tsn : Int) (k : Nat) : Int := IntKind.u32.wrap (tsn + IntKind.u32.wrap k)
def pc (m : Msg) (tsn f0 inn : Int) (n k : Nat) (ad : Option Addr × Nat) : Chk :=
  ⟨0, f0, tsnAt tsn k, 0, m.stream, inn, m.ppid, .slice none 0 0, .slice none 0 0, .slice none 0 0, .slice none 0 0, ad.1, (piece m n k).length, ad.2, piece m n k⟩
def pcs (m : Msg) (tsn f0 inn : Int) (n : Nat) (ads : List (Option Addr × Nat)) : List Chk := ads.mapIdx fun k ad => pc m tsn f0 inn n k ad

/-- What the loop holds: the chunks so far, where their row lies, what the variable bears. -/
structure SplS where
  ads : List (Option Addr × Nat)
  base : Option Addr
  cap : Nat
  a : Int
  d : Option Addr
  dn : Nat
  dc : Nat

def splH (m : Msg) (tsn f0 inn : Int) (s : SplS) : Hp := (3, .lay [.raw (.slice s.base s.ads.length s.cap)] 28) :: (2, .lay (cL m f0 inn s.a (.raw (.slice s.d s.dn s.dc))) 39) :: HS0 m tsn
def splF (m : Msg) (tsn f0 inn : Int) (n : Nat) (s : SplS) : HP := own 39 12 s.base s.ads.length s.cap ((pcs m tsn f0 inn n s.ads).flatMap Chk.cells) * stars ((pcs m tsn f0 inn n s.ads).map Chk.own)

noncomputable def splRec (w0 : World) (l r : Nat) (T : Array Value) (st : LoopState) : HP := pt l (rec0 8 T #[45] (sub (cfg8 w0).c0 [1, 1, 1, 1, 1, 0, 1, 0, 0]) (sub (cfg8 w0).c0 [1, 1, 1, 1, 1, 0, 1, 0, 1]) r st none)
def splBox (m : Msg) (n bs bn : Nat) : HP := pt bs (.cells #[.slice m.db m.dn m.dc] 24) * pt bn (.cells #[.int .i64 n] 3)
noncomputable def splJ (m : Msg) (tsn f0 inn : Int) (n : Nat) (w0 : World) (b4 b5 b10 b11 bs bn l r : Nat) (T : Array Value) (k : Nat) : HP :=
  exi fun s : SplS => pur (s.ads.length = k) * (splRec w0 l r T .ready * (satH w0 [b4, b5, b10, b11, bs, bn] (splH m tsn f0 inn s) * (splF m tsn f0 inn n s * markP r)))

section
variable {m : Msg} {tsn f0 inn : Int} {n : Nat} {w0 w : World} {b4 b5 b10 b11 bs bn l r : Nat} {T : Array Value}
theorem splJ_in (s : SplS) (h : Sat w0 (splRec w0 l r T .ready * (satH w0 [b4, b5, b10, b11, bs, bn] (splH m tsn f0 inn s) * (splF m tsn f0 inn n s * (markP r * splBox m n bs bn)))) w) : Sat w0 (chunkBoxes bs bn m.db m.dn m.dc n (splJ m tsn f0 inn n w0 b4 b5 b10 b11 bs bn l r T s.ads.length)) w := by
  have h1 : Sat w0 (splJ m tsn f0 inn n w0 b4 b5 b10 b11 bs bn l r T s.ads.length * splBox m n bs bn) w := by
    refine Sat.toExi s ?_
    rw [star_assoc]
    exact (h.eq (by ac_rfl)).toPure rfl
  exact h1.eq (by simp only [chunkBoxes, splBox]; ac_rfl)
theorem splJ_out {k : Nat} (h : Sat w0 (chunkBoxes bs bn m.db m.dn m.dc n (splJ m tsn f0 inn n w0 b4 b5 b10 b11 bs bn l r T k)) w) : ∃ s : SplS, s.ads.length = k ∧ Sat w0 (splRec w0 l r T .ready * (satH w0 [b4, b5, b10, b11, bs, bn] (splH m tsn f0 inn s) * (splF m tsn f0 inn n s * (markP r * splBox m n bs bn)))) w := by
  have h1 : Sat w0 (splJ m tsn f0 inn n w0 b4 b5 b10 b11 bs bn l r T k * splBox m n bs bn) w := h.eq (by simp only [chunkBoxes, splBox]; ac_rfl)
  obtain ⟨s, h2⟩ := h1.exi
  rw [star_assoc] at h2
  obtain ⟨h3, h4⟩ := h2.pure
  exact ⟨s, h3, h4.eq (by ac_rfl)⟩
end

theorem pcs_snoc (m : Msg) (tsn f0 inn : Int) (n : Nat) (ads : List (Option Addr × Nat)) (ad : Option Addr × Nat) : pcs m tsn f0 inn n (ads ++ [ad]) = pcs m tsn f0 inn n ads ++ [pc m tsn f0 inn n ads.length ad] := by
  simp [pcs, List.mapIdx_concat]

/-- What a list of chunks turns to at the end: the first one begins, the last one ends. -/
def Chk.or (c : Chk) (x : Int) : Chk := { c with flags := ibits .or .u8 c.flags x }
def ended (l : List Chk) : List Chk := (l.modify 0 fun c => c.or 2).modify (l.length - 1) fun c => c.or 1

theorem pcs_length (m : Msg) (tsn f0 inn : Int) (n : Nat) (ads : List (Option Addr × Nat)) : (pcs m tsn f0 inn n ads).length = ads.length := by simp [pcs]

theorem chk_flags {ls : List Chk} {k : Nat} {c : Chk} (hk : ls[k]? = some c) (pre sp : List Value) (x : Int) :
    setL (pre ++ ls.flatMap Chk.cells ++ sp) (pre.length + (k * 12 + 1)) [.int .u8 x] = pre ++ (ls.set k { c with flags := x }).flatMap Chk.cells ++ sp := by
  have hlt := (List.getElem?_eq_some_iff.1 hk).1
  have hfl : (ls.flatMap Chk.cells).length = 12 * ls.length := flat_length (n := 12) (fun _ _ => rfl)
  have hat := flat_at (g := Chk.cells) (n := 12) (fun _ _ => rfl) hk
  rw [setL_mid (by rw [hfl]; show k * 12 + 1 + 1 ≤ _; omega), Nat.mul_comm k 12, hat.setL (by show 1 + 1 ≤ 12; omega) (by simp [Chk.cells])]
  rw [show setL c.cells 1 [.int .u8 x] = ({ c with flags := x } : Chk).cells from rfl, flat_set (g := Chk.cells) (n := 12) (fun _ _ => rfl) hk rfl]

theorem chk_cell {ls : List Chk} {k : Nat} {c : Chk} (hk : ls[k]? = some c) (pre sp : List Value) (j : Nat) {u : Value} (hj : c.cells[j]? = some u) : (pre ++ ls.flatMap Chk.cells ++ sp)[pre.length + (k * 12 + j)]? = some u := by
  have hat := (At.mid (a := pre) (m := ls.flatMap Chk.cells) (b := sp)).part (flat_at (g := Chk.cells) (n := 12) (fun _ _ => rfl) hk)
  have := hat.get hj
  rw [← this]; congr 1; omega
theorem chk_room {ls : List Chk} {k : Nat} {c : Chk} (hk : ls[k]? = some c) (pre sp : List Value) : pre.length + k * 12 + 12 ≤ (pre ++ ls.flatMap Chk.cells ++ sp).length := by
  have hlt := (List.getElem?_eq_some_iff.1 hk).1
  have hfl : (ls.flatMap Chk.cells).length = 12 * ls.length := flat_length (n := 12) (fun _ _ => rfl)
  simp only [List.length_append, hfl]
  omega

theorem modify_eq_set {α : Type} : ∀ {l : List α} {k : Nat} {x : α} {f : α → α}, l[k]? = some x → l.modify k f = l.set k (f x)
  | [], _, _, _, h => by simp at h
  | y :: r, 0, _, _, h => by simp at h; subst h; rfl
  | y :: r, k + 1, x, f, h => by
    simp only [List.getElem?_cons_succ] at h
    simp only [List.modify_succ_cons, List.set_cons_succ, modify_eq_set h]

theorem map_modify_same {α γ : Type} {f : α → α} {g : α → γ} (h : ∀ x, g (f x) = g x) : ∀ (l : List α) (k : Nat), (l.modify k f).map g = l.map g
  | [], _ => by simp
  | x :: r, 0 => by simp [h]
  | x :: r, k + 1 => by simp [map_modify_same h r k]
theorem mem_modify {α : Type} {f : α → α} {p : α → Prop} (h : ∀ x, p x → p (f x)) : ∀ {l : List α} {k : Nat}, (∀ x ∈ l, p x) → ∀ x ∈ l.modify k f, p x
  | [], _, _, x, hx => by simp at hx
  | y :: r, 0, hl, x, hx => by
    simp only [List.modify_zero_cons, List.mem_cons] at hx
    rcases hx with rfl | hx
    · exact h _ (hl y (by simp))
    · exact hl x (by simp [hx])
  | y :: r, k + 1, hl, x, hx => by
    simp only [List.modify_succ_cons, List.mem_cons] at hx
    rcases hx with rfl | hx
    · exact hl _ (by simp)
    · exact mem_modify h (fun z hz => hl z (by simp [hz])) x hx
theorem ended_map {γ : Type} (g : Chk → γ) (h : ∀ c x, g (c.or x) = g c) (l : List Chk) : (ended l).map g = l.map g := by
  unfold ended
  rw [map_modify_same (fun c => h c 1), map_modify_same (fun c => h c 2)]
theorem ended_length (l : List Chk) : (ended l).length = l.length := by simp [ended]
theorem ended_one {l : List Chk} (h : ∀ u ∈ l.flatMap Chk.cells, Value.one u = true) : ∀ u ∈ (ended l).flatMap Chk.cells, Value.one u = true := by
  have h1 : ∀ c ∈ l, ∀ u ∈ c.cells, Value.one u = true := fun c hc u hu => h u (List.mem_flatMap.2 ⟨c, hc, hu⟩)
  have step : ∀ x (c : Chk), (∀ u ∈ c.cells, Value.one u = true) → ∀ u ∈ (c.or x).cells, Value.one u = true := fun x c hc u hu => by
    simp only [Chk.cells, Chk.or, List.mem_cons, List.not_mem_nil, or_false] at hu hc
    rcases hu with rfl | rfl | rfl | rfl | rfl | rfl | rfl | rfl | rfl | rfl | rfl | rfl <;> first | rfl | (exact hc _ (by simp))
  have h2 := mem_modify (f := fun c => c.or 1) (step 1) (k := (l.modify 0 fun c => c.or 2).length - 1) (mem_modify (f := fun c => c.or 2) (step 2) (k := 0) h1)
  intro u hu
  obtain ⟨c, hc, hu⟩ := List.mem_flatMap.1 hu
  refine h2 c ?_ u hu
  unfold ended at hc
  rwa [List.length_modify]

set_option maxHeartbeats 400000 in
set_option maxRecDepth 100000 in
theorem split_end (m : Msg) (tsn ssn inn f0 most : Int) (n : Nat) (b4 b5 b10 b11 bs bn r : Nat) (s : SplS) (hk : 0 < s.ads.length) (hk2 : s.ads.length ≤ 100000) {w0 : World} {R : Ending → World → Prop}
    (hR : ∀ w base c, Sat w0 (own 39 12 base s.ads.length c ((ended (pcs m tsn f0 inn n s.ads)).flatMap Chk.cells) * stars ((ended (pcs m tsn f0 inn n s.ads)).map Chk.own)) w → R (.returned (.tuple #[.slice base s.ads.length c, .int .i64 0])) w) :
    Go Try.prog none 8 (RetM Try.prog Try.f8 R) (cfg8 w0) [Go.E.mark r] (markP r * splF m tsn f0 inn n s) [b4, b5, b10, b11, bs, bn] ((44, .fn 21 [.ptr 4 0, .ptr 5 0]) :: frS m tsn ssn most) (splH m tsn f0 inn s) [.blk 1, .code [1, 1, 1, 1, 1, 1]] := by
  obtain ⟨ls, hls⟩ : ∃ ls, ls = pcs m tsn f0 inn n s.ads := ⟨_, rfl⟩
  have hll : ls.length = s.ads.length := by rw [hls, pcs_length]
  refine Go.recast (fun w hs => ?_) fun _ => rfl
  have hs1 : Sat w0 (own 39 12 s.base s.ads.length s.cap (ls.flatMap Chk.cells) * (satH w0 [b4, b5, b10, b11, bs, bn] (splH m tsn f0 inn s) * (markP r * stars (ls.map Chk.own)))) w := hs.eq (by simp only [splF, hls]; ac_rfl)
  rcases own_cases hs1 with ⟨_, h0, _⟩ | ⟨S, ⟨hb, g1, g2, g3, g4⟩, hF⟩
  · omega
  refine ⟨[b4, b5, b10, b11, bs, bn, S.b], (44, .fn 21 [.ptr 4 0, .ptr 5 0]) :: frS m tsn ssn most, (6, .arr (S.pre ++ ls.flatMap Chk.cells ++ S.spare) 39) :: (3, .lay [.sl 6 S.pre.length s.ads.length s.cap] 28) :: (2, .lay (cL m f0 inn s.a (.raw (.slice s.d s.dn s.dc))) 39) :: HS0 m tsn, markP r * stars (ls.map Chk.own), FrEq.append (γ := [S.b]) rfl, rfl, hF.eq ?_, ?_⟩
  · simp [splH, satH, atom, denO, bk, mul_one, denL, den, star_assoc, hb]
  clear hs hs1 hF
  obtain ⟨c0, hc0⟩ : ∃ c0, ls[0]? = some c0 := ⟨_, List.getElem?_eq_getElem (by omega)⟩
  obtain ⟨l1, hl1⟩ : ∃ l1, l1 = ls.set 0 (c0.or 2) := ⟨_, rfl⟩
  obtain ⟨c1, hc1⟩ : ∃ c1, l1[l1.length - 1]? = some c1 := ⟨_, List.getElem?_eq_getElem (by rw [hl1, List.length_set]; omega)⟩
  have hl1l : l1.length = s.ads.length := by rw [hl1, List.length_set, hll]
  have hend : ended ls = l1.set (l1.length - 1) (c1.or 1) := by
    unfold ended
    rw [modify_eq_set hc0, ← hl1, show ls.length - 1 = l1.length - 1 by rw [hl1, List.length_set], modify_eq_set hc1]
  refine Go.runS mixed 300 [.int .u8 c0.flags] [14] rfl ?_
  refine Ok.eq (r' := Res.need [fun x ↦ (0 : Int) ≤ (0 : Int) ∧ (0 : Int) < (↑(List.length (SplS.ads s)) : Int)] (Res.need [fun β ↦ (fun x j ↦ (Strip.pre S ++ List.flatMap Chk.cells ls ++ Strip.spare S)[j]?) β (List.length (Strip.pre S) + 0 + 1) = some (den β (LV.int IntKind.u8 (Chk.flags c0)))] (Res.need [fun x ↦ (0 : Int) ≤ (0 : Int) ∧ (0 : Int) < (↑(List.length (SplS.ads s)) : Int)] (Res.need [fun x ↦ List.length (Strip.pre S) + 0 + 1 + 1 ≤ List.length (Strip.pre S ++ List.flatMap Chk.cells ls ++ Strip.spare S)] (Res.stop { stk := [It.code [1, 1, 1, 1, 1, 1, 1, 0], It.code [1, 1, 1, 1, 1, 1, 1, 1]], fr := [(44, LV.fn 21 [LV.ptr 4 0, LV.ptr 5 0]), (11, LV.ptr 3 0), (10, LV.ptr 2 0), (9, LV.int IntKind.i64 (0 : Int)), (8, LV.cst (Value.slice none 0 0)), (5, LV.ptr 1 0), (4, LV.ptr 0 0), (0, LV.agg [LV.int IntKind.u16 (Msg.stream m), LV.bool (Msg.unord m), LV.int IntKind.u32 (Msg.ppid m), LV.raw (Value.slice (Msg.db m) (Msg.dn m) (Msg.dc m))]), (1, LV.int IntKind.u32 tsn), (2, LV.int IntKind.u16 ssn), (3, LV.int IntKind.i64 most)], H := [(6, LO.arr (setL (Strip.pre S ++ List.flatMap Chk.cells ls ++ Strip.spare S) (List.length (Strip.pre S) + 0 + 1) (denL [] [LV.int IntKind.u8 (ibits BinOp.or IntKind.u8 (Chk.flags c0) (2 : Int))])) 39), (3, LO.lay [LV.sl 6 (List.length (Strip.pre S)) (List.length (SplS.ads s)) (SplS.cap s)] 28), (2, LO.lay [LV.int IntKind.u8 (0 : Int), LV.int IntKind.u8 f0, LV.int IntKind.u32 (SplS.a s), LV.int IntKind.u32 (0 : Int), LV.int IntKind.u16 (Msg.stream m), LV.int IntKind.u16 inn, LV.int IntKind.u32 (Msg.ppid m), LV.cst (Value.slice none 0 0), LV.cst (Value.slice none 0 0), LV.cst (Value.slice none 0 0), LV.cst (Value.slice none 0 0), LV.raw (Value.slice (SplS.d s) (SplS.dn s) (SplS.dc s))] 39), (1, LO.lay [LV.int IntKind.u32 tsn] 23), (0, LO.lay [LV.int IntKind.u16 (Msg.stream m), LV.bool (Msg.unord m), LV.int IntKind.u32 (Msg.ppid m), LV.raw (Value.slice (Msg.db m) (Msg.dn m) (Msg.dc m))] 26)], nx := 7, orc := [] }))))) (by kernel_rfl) ?_
  have e1 := chk_flags hc0 S.pre S.spare (ibits .or .u8 c0.flags 2)
  rw [show S.pre.length + (0 * 12 + 1) = S.pre.length + 0 + 1 by omega] at e1
  rw [show denL [] [LV.int .u8 (ibits .or .u8 c0.flags 2)] = [.int .u8 (ibits .or .u8 c0.flags 2)] from rfl, e1, show ls.set 0 { c0 with flags := ibits .or .u8 c0.flags 2 } = l1 from hl1.symm]
  have r0 := chk_room hc0 S.pre S.spare
  have r1 := chk_room hc1 S.pre S.spare
  refine ⟨⟨by omega, trivial⟩, ⟨?_, trivial⟩, ⟨by omega, trivial⟩, ⟨by show S.pre.length + 0 + 1 + 1 ≤ _; omega, trivial⟩, fun _ => ?_⟩
  · have := chk_cell hc0 S.pre S.spare 1 (u := .int .u8 c0.flags) rfl
    rwa [show S.pre.length + (0 * 12 + 1) = S.pre.length + 0 + 1 by omega] at this
  have hw : IntKind.i64.wrap ((s.ads.length : Int) - 1) = ((l1.length - 1 : Nat) : Int) := by rw [IntWalk.i64_in _ (by omega)]; omega
  have e2 := chk_flags hc1 S.pre S.spare (ibits .or .u8 c1.flags 1)
  rw [← Nat.add_assoc] at e2
  refine Go.run mixed 300 [.int .u8 c1.flags] rfl ?_
  refine Ok.eq (r' := Res.need [fun x ↦ (0 : Int) ≤ IntKind.wrap IntKind.i64 ((↑(List.length (SplS.ads s)) : Int) - (1 : Int)) ∧ IntKind.wrap IntKind.i64 ((↑(List.length (SplS.ads s)) : Int) - (1 : Int)) < (↑(List.length (SplS.ads s)) : Int)] (Res.need [fun β ↦ (fun x j ↦ (Strip.pre S ++ List.flatMap Chk.cells l1 ++ Strip.spare S)[j]?) β (List.length (Strip.pre S) + Int.toNat (IntKind.wrap IntKind.i64 ((↑(List.length (SplS.ads s)) : Int) - (1 : Int))) * 12 + 1) = some (den β (LV.int IntKind.u8 (Chk.flags c1)))] (Res.need [fun x ↦ (0 : Int) ≤ IntKind.wrap IntKind.i64 ((↑(List.length (SplS.ads s)) : Int) - (1 : Int)) ∧ IntKind.wrap IntKind.i64 ((↑(List.length (SplS.ads s)) : Int) - (1 : Int)) < (↑(List.length (SplS.ads s)) : Int)] (Res.need [fun x ↦ List.length (Strip.pre S) + Int.toNat (IntKind.wrap IntKind.i64 ((↑(List.length (SplS.ads s)) : Int) - (1 : Int))) * 12 + 1 + 1 ≤ List.length (Strip.pre S ++ List.flatMap Chk.cells l1 ++ Strip.spare S)] (Res.leave Leave.ret { stk := [It.code [1, 1, 1, 1, 1, 1, 1, 1, 1]], fr := [(9, LV.int IntKind.i64 (0 : Int)), (8, LV.sl 6 (List.length (Strip.pre S)) (List.length (SplS.ads s)) (SplS.cap s)), (44, LV.fn 21 [LV.ptr 4 0, LV.ptr 5 0]), (11, LV.ptr 3 0), (10, LV.ptr 2 0), (5, LV.ptr 1 0), (4, LV.ptr 0 0), (0, LV.agg [LV.int IntKind.u16 (Msg.stream m), LV.bool (Msg.unord m), LV.int IntKind.u32 (Msg.ppid m), LV.raw (Value.slice (Msg.db m) (Msg.dn m) (Msg.dc m))]), (1, LV.int IntKind.u32 tsn), (2, LV.int IntKind.u16 ssn), (3, LV.int IntKind.i64 most)], H := [(6, LO.arr (setL (Strip.pre S ++ List.flatMap Chk.cells l1 ++ Strip.spare S) (List.length (Strip.pre S) + Int.toNat (IntKind.wrap IntKind.i64 ((↑(List.length (SplS.ads s)) : Int) - (1 : Int))) * 12 + 1) (denL [] [LV.int IntKind.u8 (ibits BinOp.or IntKind.u8 (Chk.flags c1) (1 : Int))])) 39), (3, LO.lay [LV.sl 6 (List.length (Strip.pre S)) (List.length (SplS.ads s)) (SplS.cap s)] 28), (2, LO.lay [LV.int IntKind.u8 (0 : Int), LV.int IntKind.u8 f0, LV.int IntKind.u32 (SplS.a s), LV.int IntKind.u32 (0 : Int), LV.int IntKind.u16 (Msg.stream m), LV.int IntKind.u16 inn, LV.int IntKind.u32 (Msg.ppid m), LV.cst (Value.slice none 0 0), LV.cst (Value.slice none 0 0), LV.cst (Value.slice none 0 0), LV.cst (Value.slice none 0 0), LV.raw (Value.slice (SplS.d s) (SplS.dn s) (SplS.dc s))] 39), (1, LO.lay [LV.int IntKind.u32 tsn] 23), (0, LO.lay [LV.int IntKind.u16 (Msg.stream m), LV.bool (Msg.unord m), LV.int IntKind.u32 (Msg.ppid m), LV.raw (Value.slice (Msg.db m) (Msg.dn m) (Msg.dc m))] 26)], nx := 7, orc := [] }))))) (by kernel_rfl) ?_
  rw [hw, show (((l1.length - 1 : Nat) : Int)).toNat = l1.length - 1 by omega, show denL [] [LV.int .u8 (ibits .or .u8 c1.flags 1)] = [.int .u8 (ibits .or .u8 c1.flags 1)] from rfl, e2, show l1.set (l1.length - 1) { c1 with flags := ibits .or .u8 c1.flags 1 } = ended ls from hend.symm]
  refine ⟨⟨by omega, trivial⟩, ⟨?_, trivial⟩, ⟨by omega, trivial⟩, ⟨by omega, trivial⟩, leave_okM1 (fun _ => nofun) rfl trivial fun w hs => ?_⟩
  · have := chk_cell hc1 S.pre S.spare 1 (u := .int .u8 c1.flags) rfl
    rwa [← Nat.add_assoc] at this
  · have hs2 : Sat w0 (pt S.b (.cells (S.pre ++ (ended ls).flatMap Chk.cells ++ S.spare).toArray 39) * stars (ls.map Chk.own)) w := by
      refine Sat.right (p := satH w0 [b4, b5, b10, b11] ((3, .lay [.raw (.slice (some ⟨S.b, S.pre.length, none⟩) s.ads.length s.cap)] 28) :: (2, .lay (cL m f0 inn s.a (.raw (.slice s.d s.dn s.dc))) 39) :: HS0 m tsn)) (hs.eq ?_)
      simp [satH, atom, denO, bk, mul_one, denL, den, star_assoc]
      ac_rfl
    refine hR w (some ⟨S.b, S.pre.length, none⟩) s.cap ?_
    rw [← hls, ended_map Chk.own (fun _ _ => rfl)]
    exact own_strip S ⟨rfl, by rw [flat_length (n := 12) (fun _ _ => rfl), ended_length, hll, Nat.mul_comm], g2, g3, ended_one g4⟩ hs2

set_option maxHeartbeats 400000 in
set_option maxRecDepth 100000 in
theorem split_rest (m : Msg) (tsn ssn inn f0 : Int) (n : Nat) (b4 b5 b10 b11 : Nat) {w0 : World} {R : Ending → World → Prop}
    (hR : ∀ (ads : List (Option Addr × Nat)) w base c, 0 < ads.length → m.dn ≤ ads.length * n → (ads.length - 1) * n < m.dn → Sat w0 (own 39 12 base ads.length c ((ended (pcs m tsn f0 inn n ads)).flatMap Chk.cells) * stars ((ended (pcs m tsn f0 inn n ads)).map Chk.own)) w → R (.returned (.tuple #[.slice base ads.length c, .int .i64 0])) w)
    (h1 : 1 ≤ n) (h2 : n ≤ 1172) (hm0 : 0 < m.dn) (hm : m.dn ≤ 16384) (hrd : Rd w0 m.db (m.bytes.map (Value.int .u8))) (hlen : m.bytes.length = m.dn) (hb : m.db = none → m.dn = 0) (hcap : m.dn ≤ m.dc) :
    Go Try.prog none 8 (RetM Try.prog Try.f8 R) (cfg8 w0) [] 1 [b4, b5, b10, b11] ((43, .int .i64 n) :: (42, .raw (.slice m.db m.dn m.dc)) :: (41, .ptr 0 3) :: frS m tsn ssn n)
      ((3, .lay [.cst (.slice none 0 0)] 28) :: (2, .lay (cL m f0 inn 0 (.cst (.slice none 0 0))) 39) :: HS0 m tsn) [.reg [1, 1, 1, 1, 1, 0, 0] [3], .code [1, 1, 1, 1, 1, 0, 1], .code [1, 1, 1, 1, 1, 1]] := by
  refine Go.call rfl rfl rfl rfl rfl fun w hs => ?_
  refine (chunk0_spec m.db m.dn m.dc n h1 w).mono fun e w' ⟨bs, bn, he, hs2⟩ => ⟨_, he, ?_⟩
  refine After.keep (γ := [bs, bn]) (H' := (3, .lay [.cst (.slice none 0 0)] 28) :: (2, .lay (cL m f0 inn 0 (.cst (.slice none 0 0))) 39) :: HS0 m tsn) (F' := chunkBoxes bs bn m.db m.dn m.dc n 1) (lv := .fn 21 [.ptr 4 0, .ptr 5 0]) rfl rfl rfl rfl ?_ ?_
  · refine (hs.trans hs2).eq ?_
    simp [chunkBoxes, satH, atom, denO, bk, mul_one, denL, den, star_assoc]
    ac_rfl
  refine Go.run mixed 300 [] rfl ?_
  refine Ok.eq (r' := Res.stop { stk := [It.code [1, 1, 1, 1, 1, 0, 1, 0], It.blk 1, It.code [1, 1, 1, 1, 1, 1]], fr := [(44, LV.fn 21 [LV.ptr 4 0, LV.ptr 5 0]), (11, LV.ptr 3 0), (10, LV.ptr 2 0), (9, LV.int IntKind.i64 (0 : Int)), (8, LV.cst (Value.slice none 0 0)), (5, LV.ptr 1 0), (4, LV.ptr 0 0), (0, LV.agg [LV.int IntKind.u16 (Msg.stream m), LV.bool (Msg.unord m), LV.int IntKind.u32 (Msg.ppid m), LV.raw (Value.slice (Msg.db m) (Msg.dn m) (Msg.dc m))]), (1, LV.int IntKind.u32 tsn), (2, LV.int IntKind.u16 ssn), (3, LV.int IntKind.i64 (↑n : Int))], H := [(3, LO.lay [LV.cst (Value.slice none 0 0)] 28), (2, LO.lay [LV.int IntKind.u8 (0 : Int), LV.int IntKind.u8 f0, LV.int IntKind.u32 (0 : Int), LV.int IntKind.u32 (0 : Int), LV.int IntKind.u16 (Msg.stream m), LV.int IntKind.u16 inn, LV.int IntKind.u32 (Msg.ppid m), LV.cst (Value.slice none 0 0), LV.cst (Value.slice none 0 0), LV.cst (Value.slice none 0 0), LV.cst (Value.slice none 0 0), LV.cst (Value.slice none 0 0)] 39), (1, LO.lay [LV.int IntKind.u32 tsn] 23), (0, LO.lay [LV.int IntKind.u16 (Msg.stream m), LV.bool (Msg.unord m), LV.int IntKind.u32 (Msg.ppid m), LV.raw (Value.slice (Msg.db m) (Msg.dn m) (Msg.dc m))] 26)], nx := 6, orc := [] }) (by kernel_rfl) ?_
  refine fun _ => Go.rangeFunc rfl rfl rfl rfl fun l r T w hT ha hs => ?_
  have h0 : Sat w0 (chunkBoxes bs bn m.db m.dn m.dc n (splJ m tsn f0 inn n w0 b4 b5 b10 b11 bs bn l r T 0)) w := by
    have hs : Sat w0 (splRec w0 l r T .ready * (markP r * (satH w0 [b4, b5, b10, b11, bs, bn] ((3, .lay [.cst (.slice none 0 0)] 28) :: (2, .lay (cL m f0 inn 0 (.cst (.slice none 0 0))) 39) :: HS0 m tsn) * chunkBoxes bs bn m.db m.dn m.dc n 1))) w := hs
    refine splJ_in ⟨[], none, 0, 0, none, 0, 0⟩ ((own_nil (e := 39) (sz := 12) hs).eq ?_)
    simp [splBox, satH, atom, denO, bk, mul_one, denL, den, star_assoc, splH, splF, pcs, stars, chunkBoxes]
    ac_rfl
  refine (chunk_spec l bs bn m.db m.dn m.dc n _ h1 h2 (by omega) hb h0 hcap fun i hi w hs => ?_).mono fun e w' ⟨hv, i, hi1, hi2, hs⟩ => ⟨hv, ?_⟩
  · obtain ⟨s, hsl, hs2⟩ := splJ_out hs
    clear hs
    subst hsl
    have := Yielded.intro (P := Try.prog) (f := 8) (cfg := cfg8 w0) (β := [b4, b5, b10, b11, bs, bn]) (fr := (44, .fn 21 [.ptr 4 0, .ptr 5 0]) :: frS m tsn ssn n) (H := splH m tsn f0 inn s) (F := splF m tsn f0 inn n s * (markP r * splBox m n bs bn))
      (l := l) (r := r) (T := T) (ps := [45]) (p := [1, 1, 1, 1, 1, 0, 1, 0]) (xs := [.raw (.slice (m.db.map fun a => a.add (s.ads.length * n)) (min n (m.dn - s.ads.length * n)) (min n (m.dn - s.ads.length * n)))]) (w := w) hT rfl rfl ha rfl hs2 (K := fun v w' => v = .bool true ∧ Sat w0 (chunkBoxes bs bn m.db m.dn m.dc n (splJ m tsn f0 inn n w0 b4 b5 b10 b11 bs bn l r T (s.ads.length + 1))) w')
    refine this ?_
    clear this hs2
    refine Go.run mixed 300 [] rfl ?_
    refine Ok.eq (r' := Res.stop { stk := [It.raw Item.beginRound, It.code [1, 1, 1, 1, 1, 0, 1, 0, 1]], fr := [(12, LV.raw (Value.slice (Option.map (fun a ↦ Addr.add a (List.length (SplS.ads s) * n)) (Msg.db m)) (min n (Msg.dn m - List.length (SplS.ads s) * n)) (min n (Msg.dn m - List.length (SplS.ads s) * n)))), (45, LV.raw (Value.slice (Option.map (fun a ↦ Addr.add a (List.length (SplS.ads s) * n)) (Msg.db m)) (min n (Msg.dn m - List.length (SplS.ads s) * n)) (min n (Msg.dn m - List.length (SplS.ads s) * n)))), (44, LV.fn 21 [LV.ptr 4 0, LV.ptr 5 0]), (11, LV.ptr 3 0), (10, LV.ptr 2 0), (9, LV.int IntKind.i64 (0 : Int)), (8, LV.cst (Value.slice none 0 0)), (5, LV.ptr 1 0), (4, LV.ptr 0 0), (0, LV.agg [LV.int IntKind.u16 (Msg.stream m), LV.bool (Msg.unord m), LV.int IntKind.u32 (Msg.ppid m), LV.raw (Value.slice (Msg.db m) (Msg.dn m) (Msg.dc m))]), (1, LV.int IntKind.u32 tsn), (2, LV.int IntKind.u16 ssn), (3, LV.int IntKind.i64 (↑n : Int))], H := [(3, LO.lay [LV.raw (Value.slice (SplS.base s) (List.length (SplS.ads s)) (SplS.cap s))] 28), (2, LO.lay [LV.int IntKind.u8 (0 : Int), LV.int IntKind.u8 f0, LV.int IntKind.u32 (SplS.a s), LV.int IntKind.u32 (0 : Int), LV.int IntKind.u16 (Msg.stream m), LV.int IntKind.u16 inn, LV.int IntKind.u32 (Msg.ppid m), LV.cst (Value.slice none 0 0), LV.cst (Value.slice none 0 0), LV.cst (Value.slice none 0 0), LV.cst (Value.slice none 0 0), LV.raw (Value.slice (SplS.d s) (SplS.dn s) (SplS.dc s))] 39), (1, LO.lay [LV.int IntKind.u32 tsn] 23), (0, LO.lay [LV.int IntKind.u16 (Msg.stream m), LV.bool (Msg.unord m), LV.int IntKind.u32 (Msg.ppid m), LV.raw (Value.slice (Msg.db m) (Msg.dn m) (Msg.dc m))] 26)], nx := 6, orc := [] }) (by kernel_rfl) ?_
    refine fun _ => Go.beginRound rfl ?_
    refine Go.run mixed 300 [] rfl ?_
    refine Ok.eq (r' := Res.stop { stk := [It.dop [1, 1, 1, 1, 1, 0, 1, 0, 1, 0, 0] 191 3 255 [(3, LO.lay [LV.raw (Value.slice (SplS.base s) (List.length (SplS.ads s)) (SplS.cap s))] 28), (2, LO.lay [LV.int IntKind.u8 (0 : Int), LV.int IntKind.u8 f0, LV.int IntKind.u32 (SplS.a s), LV.int IntKind.u32 (0 : Int), LV.int IntKind.u16 (Msg.stream m), LV.int IntKind.u16 inn, LV.int IntKind.u32 (Msg.ppid m), LV.cst (Value.slice none 0 0), LV.cst (Value.slice none 0 0), LV.cst (Value.slice none 0 0), LV.cst (Value.slice none 0 0), LV.raw (Value.slice (SplS.d s) (SplS.dn s) (SplS.dc s))] 39), (1, LO.lay [LV.int IntKind.u32 tsn] 23), (0, LO.lay [LV.int IntKind.u16 (Msg.stream m), LV.bool (Msg.unord m), LV.int IntKind.u32 (Msg.ppid m), LV.raw (Value.slice (Msg.db m) (Msg.dn m) (Msg.dc m))] 26)] 6, It.code [1, 1, 1, 1, 1, 0, 1, 0, 1, 0, 1], It.blk 2], fr := [(53, LV.ptr 2 2), (51, LV.raw (Value.slice (Option.map (fun a ↦ Addr.add a (List.length (SplS.ads s) * n)) (Msg.db m)) (min n (Msg.dn m - List.length (SplS.ads s) * n)) (min n (Msg.dn m - List.length (SplS.ads s) * n)))), (50, LV.int IntKind.u32 (IntKind.wrap IntKind.u32 (tsn + IntKind.wrap IntKind.u32 (↑(List.length (SplS.ads s)) : Int)))), (49, LV.int IntKind.u32 (IntKind.wrap IntKind.u32 (↑(List.length (SplS.ads s)) : Int))), (48, LV.int IntKind.i64 (↑(List.length (SplS.ads s)) : Int)), (47, LV.raw (Value.slice (SplS.base s) (List.length (SplS.ads s)) (SplS.cap s))), (46, LV.int IntKind.u32 tsn), (12, LV.raw (Value.slice (Option.map (fun a ↦ Addr.add a (List.length (SplS.ads s) * n)) (Msg.db m)) (min n (Msg.dn m - List.length (SplS.ads s) * n)) (min n (Msg.dn m - List.length (SplS.ads s) * n)))), (45, LV.raw (Value.slice (Option.map (fun a ↦ Addr.add a (List.length (SplS.ads s) * n)) (Msg.db m)) (min n (Msg.dn m - List.length (SplS.ads s) * n)) (min n (Msg.dn m - List.length (SplS.ads s) * n)))), (44, LV.fn 21 [LV.ptr 4 0, LV.ptr 5 0]), (11, LV.ptr 3 0), (10, LV.ptr 2 0), (9, LV.int IntKind.i64 (0 : Int)), (8, LV.cst (Value.slice none 0 0)), (5, LV.ptr 1 0), (4, LV.ptr 0 0), (0, LV.agg [LV.int IntKind.u16 (Msg.stream m), LV.bool (Msg.unord m), LV.int IntKind.u32 (Msg.ppid m), LV.raw (Value.slice (Msg.db m) (Msg.dn m) (Msg.dc m))]), (1, LV.int IntKind.u32 tsn), (2, LV.int IntKind.u16 ssn), (3, LV.int IntKind.i64 (↑n : Int))], H := [(3, LO.lay [LV.raw (Value.slice (SplS.base s) (List.length (SplS.ads s)) (SplS.cap s))] 28), (2, LO.lay [LV.int IntKind.u8 (0 : Int), LV.int IntKind.u8 f0, LV.int IntKind.u32 (SplS.a s), LV.int IntKind.u32 (0 : Int), LV.int IntKind.u16 (Msg.stream m), LV.int IntKind.u16 inn, LV.int IntKind.u32 (Msg.ppid m), LV.cst (Value.slice none 0 0), LV.cst (Value.slice none 0 0), LV.cst (Value.slice none 0 0), LV.cst (Value.slice none 0 0), LV.raw (Value.slice (SplS.d s) (SplS.dn s) (SplS.dc s))] 39), (1, LO.lay [LV.int IntKind.u32 tsn] 23), (0, LO.lay [LV.int IntKind.u16 (Msg.stream m), LV.bool (Msg.unord m), LV.int IntKind.u32 (Msg.ppid m), LV.raw (Value.slice (Msg.db m) (Msg.dn m) (Msg.dc m))] 26)], nx := 6, orc := [] }) (by kernel_rfl) ?_
    obtain ⟨nn, hnn⟩ : ∃ nn, nn = min n (m.dn - s.ads.length * n) := ⟨_, rfl⟩
    rw [← hnn]
    have hpl : (piece m n s.ads.length).length = nn := by simp [piece, hlen, hnn]
    have hpat : At (m.bytes.map (Value.int .u8)) (s.ads.length * n) ((piece m n s.ads.length).map (Value.int .u8)) := fun j u hj => by
      have hlt := (List.getElem?_eq_some_iff.1 hj).1
      simp only [List.length_map, hpl] at hlt
      simp only [piece, List.getElem?_map, List.getElem?_take, List.getElem?_drop] at hj ⊢
      rwa [if_pos (by omega)] at hj
    refine fun _ => Go.callDT rfl rfl rfl rfl rfl rfl rfl rfl fun w hs => ?_
    have hR : Rd w (m.db.map fun a => a.add (s.ads.length * n)) ((piece m n s.ads.length).map (Value.int .u8)) := (hrd.part hpat).sat hs
    have hnb : (m.db.map fun a => a.add (s.ads.length * n)) = none → nn = 0 := fun h => by
      have : m.db = none := by simpa using h
      have := hb this
      omega
    have hc := clone_rd (m.db.map fun a => a.add (s.ads.length * n)) nn nn ((piece m n s.ads.length).map (Value.int .u8)) w hR (by simp [hpl]) (by simp [Value.one]) hnb (by omega)
    refine hc.mono fun e w' ⟨d', dc', he, hs2⟩ => ⟨.raw (.slice d' nn dc'), _, he, rfl, hs2, ?_⟩
    refine Go.run mixed 300 [] rfl ?_
    refine Ok.eq (r' := Res.need [fun x ↦ Value.one (Value.slice d' nn dc') = true] (Res.need [fun x ↦ Value.one (Value.slice d' nn dc') = true] (Res.new (Res.stop { stk := [It.reg [1, 1, 1, 1, 1, 0, 1, 0, 1, 0, 1] [3, 4], It.blk 2], fr := [(57, LV.sl 6 0 1 1), (56, LV.agg [LV.int IntKind.u8 (0 : Int), LV.int IntKind.u8 f0, LV.int IntKind.u32 (IntKind.wrap IntKind.u32 (tsn + IntKind.wrap IntKind.u32 (↑(List.length (SplS.ads s)) : Int))), LV.int IntKind.u32 (0 : Int), LV.int IntKind.u16 (Msg.stream m), LV.int IntKind.u16 inn, LV.int IntKind.u32 (Msg.ppid m), LV.cst (Value.slice none 0 0), LV.cst (Value.slice none 0 0), LV.cst (Value.slice none 0 0), LV.cst (Value.slice none 0 0), LV.raw (Value.slice d' nn dc')]), (55, LV.raw (Value.slice (SplS.base s) (List.length (SplS.ads s)) (SplS.cap s))), (12, LV.raw (Value.slice (Option.map (fun a ↦ Addr.add a (List.length (SplS.ads s) * n)) (Msg.db m)) nn nn)), (45, LV.raw (Value.slice (Option.map (fun a ↦ Addr.add a (List.length (SplS.ads s) * n)) (Msg.db m)) nn nn)), (44, LV.fn 21 [LV.ptr 4 0, LV.ptr 5 0]), (11, LV.ptr 3 0), (10, LV.ptr 2 0), (9, LV.int IntKind.i64 (0 : Int)), (8, LV.cst (Value.slice none 0 0)), (5, LV.ptr 1 0), (4, LV.ptr 0 0), (0, LV.agg [LV.int IntKind.u16 (Msg.stream m), LV.bool (Msg.unord m), LV.int IntKind.u32 (Msg.ppid m), LV.raw (Value.slice (Msg.db m) (Msg.dn m) (Msg.dc m))]), (1, LV.int IntKind.u32 tsn), (2, LV.int IntKind.u16 ssn), (3, LV.int IntKind.i64 (↑n : Int))], H := [(6, LO.lay [LV.int IntKind.u8 (0 : Int), LV.int IntKind.u8 f0, LV.int IntKind.u32 (IntKind.wrap IntKind.u32 (tsn + IntKind.wrap IntKind.u32 (↑(List.length (SplS.ads s)) : Int))), LV.int IntKind.u32 (0 : Int), LV.int IntKind.u16 (Msg.stream m), LV.int IntKind.u16 inn, LV.int IntKind.u32 (Msg.ppid m), LV.cst (Value.slice none 0 0), LV.cst (Value.slice none 0 0), LV.cst (Value.slice none 0 0), LV.cst (Value.slice none 0 0), LV.raw (Value.slice d' nn dc')] 39), (3, LO.lay [LV.raw (Value.slice (SplS.base s) (List.length (SplS.ads s)) (SplS.cap s))] 28), (2, LO.lay [LV.int IntKind.u8 (0 : Int), LV.int IntKind.u8 f0, LV.int IntKind.u32 (IntKind.wrap IntKind.u32 (tsn + IntKind.wrap IntKind.u32 (↑(List.length (SplS.ads s)) : Int))), LV.int IntKind.u32 (0 : Int), LV.int IntKind.u16 (Msg.stream m), LV.int IntKind.u16 inn, LV.int IntKind.u32 (Msg.ppid m), LV.cst (Value.slice none 0 0), LV.cst (Value.slice none 0 0), LV.cst (Value.slice none 0 0), LV.cst (Value.slice none 0 0), LV.raw (Value.slice d' nn dc')] 39), (1, LO.lay [LV.int IntKind.u32 tsn] 23), (0, LO.lay [LV.int IntKind.u16 (Msg.stream m), LV.bool (Msg.unord m), LV.int IntKind.u32 (Msg.ppid m), LV.raw (Value.slice (Msg.db m) (Msg.dn m) (Msg.dc m))] 26)], nx := 7, orc := [] })))) (by kernel_rfl) ?_
    have hin : s.ads.length ≤ s.ads.length * n := Nat.le_mul_of_pos_right _ h1
    refine ⟨⟨rfl, trivial⟩, ⟨rfl, trivial⟩, fun b12 => fun _ => ?_⟩
    refine Go.append (base := s.base) (n := s.ads.length) (c := s.cap) (e := 39) (sz := 12) 1 rfl rfl rfl rfl rfl rfl rfl rfl rfl rfl rfl fun w hs => ?_
    refine ⟨(pcs m tsn f0 inn n s.ads).flatMap Chk.cells, (pc m tsn f0 inn n s.ads.length (d', dc')).cells, own 5 1 d' nn dc' ((piece m n s.ads.length).map (Value.int .u8)) * (splRec w0 l r T .busy * (stars ((pcs m tsn f0 inn n s.ads).map Chk.own) * (markP r * splBox m n bs bn))),
      (3, .lay [.raw (.slice s.base s.ads.length s.cap)] 28) :: (2, .lay (cL m f0 inn (tsnAt tsn s.ads.length) (.raw (.slice d' nn dc'))) 39) :: HS0 m tsn, ?_, ?_, ?_, ?_, fun base' c' => ?_⟩
    · refine Sat.right (p := pt b12 (.cells (pc m tsn f0 inn n s.ads.length (d', dc')).cells.toArray 39)) (hs.eq ?_)
      simp [satH, atom, denO, bk, mul_one, denL, den, star_assoc, splF, pc, Chk.cells, tsnAt, hpl, splRec]
      ac_rfl
    · have hbl : w.heap[b12]? = some (.cells (pc m tsn f0 inn n s.ads.length (d', dc')).cells.toArray 39) := by
        refine Sat.get (F := satH w0 [b4, b5, b10, b11] ((3, .lay [.raw (.slice s.base s.ads.length s.cap)] 28) :: (2, .lay (cL m f0 inn (tsnAt tsn s.ads.length) (.raw (.slice d' nn dc'))) 39) :: HS0 m tsn) * (own 5 1 d' nn dc' ((piece m n s.ads.length).map (Value.int .u8)) * 1 * (splRec w0 l r T .busy * (splF m tsn f0 inn n s * (markP r * splBox m n bs bn))))) (hs.eq ?_)
        simp [satH, atom, denO, bk, mul_one, denL, den, star_assoc, pc, Chk.cells, tsnAt, hpl, splRec]
      exact Src.of_block (tx := 28) (e' := 39) rfl hbl rfl (fun j u hj => by simpa using hj) (by simp [pc, Chk.cells, Value.one])
    · show (s.ads.length + 1) * 144 ≤ _
      omega
    · omega
    refine Go.run mixed 300 [] rfl ?_
    refine Ok.eq (r' := Res.need [fun x ↦ Value.one (Value.slice base' (List.length (SplS.ads s) + 1) c') = true] (Res.leave Leave.fin { stk := [], fr := [(12, LV.raw (Value.slice (Option.map (fun a ↦ Addr.add a (List.length (SplS.ads s) * n)) (Msg.db m)) nn nn)), (45, LV.raw (Value.slice (Option.map (fun a ↦ Addr.add a (List.length (SplS.ads s) * n)) (Msg.db m)) nn nn)), (44, LV.fn 21 [LV.ptr 4 0, LV.ptr 5 0]), (11, LV.ptr 3 0), (10, LV.ptr 2 0), (9, LV.int IntKind.i64 (0 : Int)), (8, LV.cst (Value.slice none 0 0)), (5, LV.ptr 1 0), (4, LV.ptr 0 0), (0, LV.agg [LV.int IntKind.u16 (Msg.stream m), LV.bool (Msg.unord m), LV.int IntKind.u32 (Msg.ppid m), LV.raw (Value.slice (Msg.db m) (Msg.dn m) (Msg.dc m))]), (1, LV.int IntKind.u32 tsn), (2, LV.int IntKind.u16 ssn), (3, LV.int IntKind.i64 (↑n : Int))], H := [(3, LO.lay [LV.raw (Value.slice base' (List.length (SplS.ads s) + 1) c')] 28), (2, LO.lay [LV.int IntKind.u8 (0 : Int), LV.int IntKind.u8 f0, LV.int IntKind.u32 (tsnAt tsn (List.length (SplS.ads s))), LV.int IntKind.u32 (0 : Int), LV.int IntKind.u16 (Msg.stream m), LV.int IntKind.u16 inn, LV.int IntKind.u32 (Msg.ppid m), LV.cst (Value.slice none 0 0), LV.cst (Value.slice none 0 0), LV.cst (Value.slice none 0 0), LV.cst (Value.slice none 0 0), LV.raw (Value.slice d' nn dc')] 39), (1, LO.lay [LV.int IntKind.u32 tsn] 23), (0, LO.lay [LV.int IntKind.u16 (Msg.stream m), LV.bool (Msg.unord m), LV.int IntKind.u32 (Msg.ppid m), LV.raw (Value.slice (Msg.db m) (Msg.dn m) (Msg.dc m))] 26)], nx := 7, orc := [] })) (by kernel_rfl) ?_
    refine ⟨⟨rfl, trivial⟩, round_end' (f := 8) (T := T) (ps := #[45]) (ca := sub (cfg8 w0).c0 [1, 1, 1, 1, 1, 0, 1, 0, 0]) (cb := sub (cfg8 w0).c0 [1, 1, 1, 1, 1, 0, 1, 0, 1]) (r := r) (l := l) fun w hs =>
      ⟨satH w0 [b4, b5, b10, b11, bs, bn] (splH m tsn f0 inn ⟨s.ads ++ [(d', dc')], base', c', tsnAt tsn s.ads.length, d', nn, dc'⟩) * (splF m tsn f0 inn n ⟨s.ads ++ [(d', dc')], base', c', tsnAt tsn s.ads.length, d', nn, dc'⟩ * (markP r * splBox m n bs bn)), hs.eq ?_, fun w' hs' => ⟨rfl, ?_⟩⟩⟩
    · simp [splH, splF, pcs_snoc, stars_append, stars, satH, atom, denO, bk, mul_one, denL, den, star_assoc, Chk.own, pc, hpl, List.flatMap_append, Chk.cells, splRec]
      ac_rfl
    · have := splJ_in ⟨s.ads ++ [(d', dc')], base', c', tsnAt tsn s.ads.length, d', nn, dc'⟩ hs'
      rwa [show (s.ads ++ [(d', dc')]).length = s.ads.length + 1 by simp] at this
  · obtain ⟨s, hsl, hs2⟩ := splJ_out hs
    clear hs
    subst hsl
    refine ⟨.ready, none, splF m tsn f0 inn n s * (markP r * splBox m n bs bn), [b4, b5, b10, b11, bs, bn], (44, .fn 21 [.ptr 4 0, .ptr 5 0]) :: frS m tsn ssn n, splH m tsn f0 inn s, _, nofun, FrEq.refl _ _, rfl, hs2, rfl, ?_⟩
    refine Go.drop (Go.reF (G := splBox m n bs bn * (markP r * splF m tsn f0 inn n s)) (by ac_rfl) (Go.drop ?_))
    have hi0 : 0 < s.ads.length := by
      rcases Nat.eq_zero_or_pos s.ads.length with h | h
      · rw [h] at hi1; omega
      · exact h
    have hi3 : (s.ads.length - 1) * n < m.dn := hi2.resolve_left (by omega)
    have hi4 : s.ads.length - 1 ≤ (s.ads.length - 1) * n := Nat.le_mul_of_pos_right _ h1
    exact split_end m tsn ssn inn f0 n n b4 b5 b10 b11 bs bn r s hi0 (by omega) fun w base c hs => hR s.ads w base c hi0 hi1 hi3 hs

/-- Flags and number within a stream, as they are told of a message. -/
def fl0 (m : Msg) : Int := if m.unord then 4 else 0
def in0 (m : Msg) (ssn : Int) : Int := if m.unord then 0 else ssn
/-- The chunks of a message. -/
def splits (m : Msg) (tsn ssn : Int) (n : Nat) (ads : List (Option Addr × Nat)) : List Chk := ended (pcs m tsn (fl0 m) (in0 m ssn) n ads)
def SplitR (m : Msg) (tsn ssn most : Int) (w : World) (e : Ending) (w' : World) : Prop :=
  if m.dn = 0 ∨ most < 1 ∨ most > 1172 then e = .returned (.tuple #[.slice none 0 0, .int .i64 1]) ∧ Sat w 1 w'
  else if m.dn > 16384 then e = .returned (.tuple #[.slice none 0 0, .int .i64 10]) ∧ Sat w 1 w'
  else ∃ (ads : List (Option Addr × Nat)) (base : Option Addr) (c : Nat), 0 < ads.length ∧ m.dn ≤ ads.length * most.toNat ∧ (ads.length - 1) * most.toNat < m.dn ∧ e = .returned (.tuple #[.slice base ads.length c, .int .i64 0]) ∧
    Sat w (own 39 12 base ads.length c ((splits m tsn ssn most.toNat ads).flatMap Chk.cells) * stars ((splits m tsn ssn most.toNat ads).map Chk.own)) w'

set_option maxHeartbeats 400000 in
set_option maxRecDepth 100000 in
theorem split_spec (m : Msg) (tsn ssn most : Int) (w : World) (hrd : Rd w m.db (m.bytes.map (Value.int .u8))) (hlen : m.bytes.length = m.dn) (hb : m.db = none → m.dn = 0) (hcap : m.dn ≤ m.dc) :
    Calls Try.prog 8 #[m.val, .int .u32 tsn, .int .u16 ssn, .int .i64 most] w (SplitR m tsn ssn most w) := by
  refine Calls.enterM (cfg := cfg8 w) (β := []) (H := []) (F := 1) (l := [m.lv, .int .u32 tsn, .int .u16 ssn, .int .i64 most]) Try.func8 rfl rfl (Nat.le_of_ble_eq_true rfl) rfl ((Sat.refl w).eq (one_mul 1).symm) ?_
  refine Go.run mixed 300 [] rfl ?_
  refine Ok.eq (r' := Res.need [fun x ↦ Value.one (Value.slice (Msg.db m) (Msg.dn m) (Msg.dc m)) = true] (Res.new (Res.new (Res.ite ((↑(Msg.dn m) : Int) == (0 : Int) || decide (most < (1 : Int)) || decide (most > (1172 : Int))) (Res.leave Leave.ret { stk := [It.code [1, 0, 0, 1, 0, 1], It.blk 0, It.code [1, 1]], fr := [(9, LV.int IntKind.i64 (1 : Int)), (8, LV.cst (Value.slice none 0 0)), (5, LV.ptr 1 0), (4, LV.ptr 0 0), (0, LV.agg [LV.int IntKind.u16 (Msg.stream m), LV.bool (Msg.unord m), LV.int IntKind.u32 (Msg.ppid m), LV.raw (Value.slice (Msg.db m) (Msg.dn m) (Msg.dc m))]), (1, LV.int IntKind.u32 tsn), (2, LV.int IntKind.u16 ssn), (3, LV.int IntKind.i64 most)], H := [(1, LO.lay [LV.int IntKind.u32 tsn] 23), (0, LO.lay [LV.int IntKind.u16 (Msg.stream m), LV.bool (Msg.unord m), LV.int IntKind.u32 (Msg.ppid m), LV.raw (Value.slice (Msg.db m) (Msg.dn m) (Msg.dc m))] 26)], nx := 2, orc := [] }) (Res.ite (decide ((↑(Msg.dn m) : Int) > (16384 : Int))) (Res.leave Leave.ret { stk := [It.code [1, 0, 0, 1, 1, 1, 0, 1], It.blk 0, It.code [1, 1]], fr := [(9, LV.int IntKind.i64 (10 : Int)), (8, LV.cst (Value.slice none 0 0)), (5, LV.ptr 1 0), (4, LV.ptr 0 0), (0, LV.agg [LV.int IntKind.u16 (Msg.stream m), LV.bool (Msg.unord m), LV.int IntKind.u32 (Msg.ppid m), LV.raw (Value.slice (Msg.db m) (Msg.dn m) (Msg.dc m))]), (1, LV.int IntKind.u32 tsn), (2, LV.int IntKind.u16 ssn), (3, LV.int IntKind.i64 most)], H := [(1, LO.lay [LV.int IntKind.u32 tsn] 23), (0, LO.lay [LV.int IntKind.u16 (Msg.stream m), LV.bool (Msg.unord m), LV.int IntKind.u32 (Msg.ppid m), LV.raw (Value.slice (Msg.db m) (Msg.dn m) (Msg.dc m))] 26)], nx := 2, orc := [] }) (Res.new (Res.ite (Msg.unord m) (Res.new (Res.stop { stk := [It.reg [1, 1, 1, 1, 1, 0, 0] [3], It.code [1, 1, 1, 1, 1, 0, 1], It.code [1, 1, 1, 1, 1, 1]], fr := [(43, LV.int IntKind.i64 most), (42, LV.raw (Value.slice (Msg.db m) (Msg.dn m) (Msg.dc m))), (41, LV.ptr 0 3), (11, LV.ptr 3 0), (10, LV.ptr 2 0), (9, LV.int IntKind.i64 (0 : Int)), (8, LV.cst (Value.slice none 0 0)), (5, LV.ptr 1 0), (4, LV.ptr 0 0), (0, LV.agg [LV.int IntKind.u16 (Msg.stream m), LV.bool (Msg.unord m), LV.int IntKind.u32 (Msg.ppid m), LV.raw (Value.slice (Msg.db m) (Msg.dn m) (Msg.dc m))]), (1, LV.int IntKind.u32 tsn), (2, LV.int IntKind.u16 ssn), (3, LV.int IntKind.i64 most)], H := [(3, LO.lay [LV.cst (Value.slice none 0 0)] 28), (2, LO.lay [LV.int IntKind.u8 (0 : Int), LV.int IntKind.u8 (4 : Int), LV.int IntKind.u32 (0 : Int), LV.int IntKind.u32 (0 : Int), LV.int IntKind.u16 (Msg.stream m), LV.int IntKind.u16 (0 : Int), LV.int IntKind.u32 (Msg.ppid m), LV.cst (Value.slice none 0 0), LV.cst (Value.slice none 0 0), LV.cst (Value.slice none 0 0), LV.cst (Value.slice none 0 0), LV.cst (Value.slice none 0 0)] 39), (1, LO.lay [LV.int IntKind.u32 tsn] 23), (0, LO.lay [LV.int IntKind.u16 (Msg.stream m), LV.bool (Msg.unord m), LV.int IntKind.u32 (Msg.ppid m), LV.raw (Value.slice (Msg.db m) (Msg.dn m) (Msg.dc m))] 26)], nx := 4, orc := [] })) (Res.new (Res.stop { stk := [It.reg [1, 1, 1, 1, 1, 0, 0] [3], It.code [1, 1, 1, 1, 1, 0, 1], It.code [1, 1, 1, 1, 1, 1]], fr := [(43, LV.int IntKind.i64 most), (42, LV.raw (Value.slice (Msg.db m) (Msg.dn m) (Msg.dc m))), (41, LV.ptr 0 3), (11, LV.ptr 3 0), (10, LV.ptr 2 0), (9, LV.int IntKind.i64 (0 : Int)), (8, LV.cst (Value.slice none 0 0)), (5, LV.ptr 1 0), (4, LV.ptr 0 0), (0, LV.agg [LV.int IntKind.u16 (Msg.stream m), LV.bool (Msg.unord m), LV.int IntKind.u32 (Msg.ppid m), LV.raw (Value.slice (Msg.db m) (Msg.dn m) (Msg.dc m))]), (1, LV.int IntKind.u32 tsn), (2, LV.int IntKind.u16 ssn), (3, LV.int IntKind.i64 most)], H := [(3, LO.lay [LV.cst (Value.slice none 0 0)] 28), (2, LO.lay [LV.int IntKind.u8 (0 : Int), LV.int IntKind.u8 (0 : Int), LV.int IntKind.u32 (0 : Int), LV.int IntKind.u32 (0 : Int), LV.int IntKind.u16 (Msg.stream m), LV.int IntKind.u16 ssn, LV.int IntKind.u32 (Msg.ppid m), LV.cst (Value.slice none 0 0), LV.cst (Value.slice none 0 0), LV.cst (Value.slice none 0 0), LV.cst (Value.slice none 0 0), LV.cst (Value.slice none 0 0)] 39), (1, LO.lay [LV.int IntKind.u32 tsn] 23), (0, LO.lay [LV.int IntKind.u16 (Msg.stream m), LV.bool (Msg.unord m), LV.int IntKind.u32 (Msg.ppid m), LV.raw (Value.slice (Msg.db m) (Msg.dn m) (Msg.dc m))] 26)], nx := 4, orc := [] }))))))))) (by kernel_rfl) ?_
  refine ⟨⟨rfl, trivial⟩, fun b4 b5 => ⟨fun hbad => ?_, fun hgood => ⟨fun hbig => ?_, fun hsm => ?_⟩⟩⟩
  · refine leave_okM0 (fun _ => nofun) rfl trivial fun w hs => ?_
    have : m.dn = 0 ∨ most < 1 ∨ most > 1172 := by simp at hbad; omega
    unfold SplitR
    rw [if_pos this]
    exact ⟨rfl, hs.right⟩
  · refine leave_okM0 (fun _ => nofun) rfl trivial fun w hs => ?_
    have h1 : ¬ (m.dn = 0 ∨ most < 1 ∨ most > 1172) := by simp at hgood; omega
    have h2 : m.dn > 16384 := by simp at hbig; omega
    unfold SplitR
    rw [if_neg h1, if_pos h2]
    exact ⟨rfl, hs.right⟩
  · have h1 : ¬ (m.dn = 0 ∨ most < 1 ∨ most > 1172) := by simp at hgood; omega
    have h2 : ¬ m.dn > 16384 := by simp at hsm; omega
    obtain ⟨n, rfl⟩ : ∃ n : Nat, most = (n : Int) := ⟨most.toNat, by omega⟩
    have hend : ∀ (ads : List (Option Addr × Nat)) w' base c, 0 < ads.length → m.dn ≤ ads.length * n → (ads.length - 1) * n < m.dn →
        Sat w (own 39 12 base ads.length c ((splits m tsn ssn n ads).flatMap Chk.cells) * stars ((splits m tsn ssn n ads).map Chk.own)) w' → SplitR m tsn ssn n w (.returned (.tuple #[.slice base ads.length c, .int .i64 0])) w' := fun ads w' base c g1 g2 g3 g4 => by
      unfold SplitR
      rw [if_neg h1, if_neg h2]
      exact ⟨ads, base, c, g1, g2, g3, rfl, g4⟩
    refine fun b10 => ⟨fun hu => ?_, fun hu => ?_⟩
    · refine fun b11 => fun _ => split_rest m tsn ssn 0 4 n b4 b5 b10 b11 (fun ads w base c g1 g2 g3 g4 => ?_) (by omega) (by omega) (by omega) (by omega) hrd hlen hb hcap
      refine hend ads w base c g1 g2 g3 ?_
      simpa [splits, fl0, in0, hu] using g4
    · refine fun b11 => fun _ => split_rest m tsn ssn ssn 0 n b4 b5 b10 b11 (fun ads w base c g1 g2 g3 g4 => ?_) (by omega) (by omega) (by omega) (by omega) hrd hlen hb hcap
      refine hend ads w base c g1 g2 g3 ?_
      simpa [splits, fl0, in0, hu] using g4

end Go.Proofs.Ytlgggljlegpaoaa
