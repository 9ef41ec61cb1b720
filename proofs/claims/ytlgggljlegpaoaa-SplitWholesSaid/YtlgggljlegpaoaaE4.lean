/-
  What one operation yields, reckoned over logical values: the operations that touch no memory ('evalPure'), with the conditions under which they neither
  panic nor stand still.
-/
import Derived.Test.YtlgggljlegpaoaaE3
namespace Go.E

def szOf (P : Program) (t : TypeId) : Option Nat := (P.info? t).map (·.size)
def aggT (P : Program) (t : TypeId) : Option Bool :=
  match P.underlying t with
  | some (.struct _) => some true
  | some (.array _ _) => some true
  | some _ => some false
  | none => none

section
variable {P : Program} {w : World}

theorem run_typeInfo' {t : TypeId} {i : TypeInfo} (h : P.info? t = some i) : (typeInfo t).run P w = .ok i w := by simp [typeInfo, h]
theorem run_sizeOf' {t : TypeId} {n : Nat} (h : szOf P t = some n) : (sizeOf t).run P w = .ok n w := by
  unfold szOf at h
  obtain ⟨i, hi, rfl⟩ := Option.map_eq_some_iff.1 h
  simp [sizeOf, run_typeInfo' hi]
theorem run_isAgg' {t : TypeId} {b : Bool} (h : aggT P t = some b) : (isAgg t).run P w = .ok b w := by
  unfold aggT at h
  cases hu : P.underlying t with
  | none => rw [hu] at h; cases h
  | some d =>
    rw [hu] at h
    cases d <;> simp only [Option.some.injEq] at h <;> subst h <;> simp [isAgg, run_underlying hu]

/-- The bitwise operations. -/
def ibits (op : BinOp) (k : IntKind) (a b : Int) : Int :=
  match op with
  | .and => k.wrap (BitVec.ofInt k.bits a &&& BitVec.ofInt k.bits b).toNat
  | .or => k.wrap (BitVec.ofInt k.bits a ||| BitVec.ofInt k.bits b).toNat
  | .xor => k.wrap (BitVec.ofInt k.bits a ^^^ BitVec.ofInt k.bits b).toNat
  | _ => k.wrap (BitVec.ofInt k.bits a &&& ~~~ BitVec.ofInt k.bits b).toNat

def litI : Operand → Option Int
  | .const (.int _ n) => some n
  | _ => none

def nz (y : Operand) (b : Int) : Option NeedL :=
  match litI y with
  | some n => (match n with
    | .ofNat 0 => none
    | _ => some [])
  | none => some [fun _ => b ≠ 0]

def binInt (op : BinOp) (k : IntKind) (a b : Int) (y : Operand) : Option (LV × NeedL) :=
  match op with
  | .add => some (.int k (k.wrap (a + b)), [])
  | .sub => some (.int k (k.wrap (a - b)), [])
  | .mul => some (.int k (k.wrap (a * b)), [])
  | .quo => (nz y b).map fun ns => (.int k (k.wrap (a.tdiv b)), ns)
  | .rem => (nz y b).map fun ns => (.int k (a.tmod b), ns)
  | .and => some (.int k (ibits .and k a b), [])
  | .or => some (.int k (ibits .or k a b), [])
  | .xor => some (.int k (ibits .xor k a b), [])
  | .andNot => some (.int k (ibits .andNot k a b), [])
  | .eql => some (.bool (a == b), [])
  | .neq => some (.bool (a != b), [])
  | .lss => some (.bool (decide (a < b)), [])
  | .leq => some (.bool (decide (a ≤ b)), [])
  | .gtr => some (.bool (decide (a > b)), [])
  | .geq => some (.bool (decide (a ≥ b)), [])
  | _ => none

def isNilC : Value → Bool
  | .pointer none => true
  | .slice none _ _ => true
  | .map none => true
  | .nilFunc => true
  | _ => false

/-- Is a value nil, seen by its type? none: it cannot be seen. -/
def isNil : LV → Option Bool
  | .ptr _ _ => some false
  | .sl _ _ _ _ => some false
  | .mp _ => some false
  | .fn _ _ => some false
  | .cst v => bif isNilC v then some true else none
  | _ => none

inductive Shp where
  | p | s | m | f
def shpL : LV → Option Shp
  | .ptr _ _ => some .p
  | .sl _ _ _ _ => some .s
  | .mp _ => some .m
  | .fn _ _ => some .f
  | .cst (.pointer none) => some .p
  | .cst (.slice none _ _) => some .s
  | .cst (.map none) => some .m
  | .cst .nilFunc => some .f
  | _ => none
def shpT : TypeDesc → Option Shp
  | .pointer _ => some .p
  | .slice _ => some .s
  | .map _ _ => some .m
  | .func _ _ _ => some .f
  | _ => none
def shpC : Value → Option Shp
  | .pointer none => some .p
  | .slice none _ _ => some .s
  | .map none => some .m
  | .nilFunc => some .f
  | _ => none
def Shp.eq : Shp → Shp → Bool
  | .p, .p => true
  | .s, .s => true
  | .m, .m => true
  | .f, .f => true
  | _, _ => false
def sameShp : Option Shp → Option Shp → Bool
  | some a, some b => a.eq b
  | _, _ => false

/-- 'x == nil'. -/
def eqNil (P : Program) (t : TypeId) (x : LV) (v : Value) : Option Bool :=
  match P.underlying t with
  | some d => bif sameShp (shpT d) (shpL x) && sameShp (shpT d) (shpC v) then isNil x else none
  | none => none

/-- The same of a value whose base is not seen. -/
def eqRaw (P : Program) (t : TypeId) (x : LV) (v : Value) : Option Bool :=
  match P.underlying t, x, v with
  | some (.slice _), .raw (.slice a _ _), .slice none _ _ => some a.isNone
  | some (.pointer _), .raw (.pointer a), .pointer none => some a.isNone
  | some (.map _ _), .raw (.map a), .map none => some a.isNone
  | _, _, _ => none

def binV (P : Program) (op : BinOp) (t : TypeId) (x y : LV) (yo : Operand) : Option (LV × NeedL) :=
  match x, y with
  | .int k a, .int k' b =>
    match op with
    | .shl => (match litI yo with
      | some (.ofNat n) => some (.int k (k.wrap (a * 2 ^ (min n k.bits))), [])
      | _ => none)
    | .shr => (match litI yo with
      | some (.ofNat n) => some (.int k (a.fdiv (2 ^ (min n k.bits))), [])
      | _ => none)
    | _ => if k = k' then binInt op k a b yo else none
  | .str a, .str b =>
    match op with
    | .eql => some (.bool (a.toList == b.toList), [])
    | .neq => some (.bool (!(a.toList == b.toList)), [])
    | _ => none
  | x, y =>
    match bl x, bl y with
    | some a, some b => (match P.underlying t with
      | some .bool => (match op with
        | .eql => some (.bool (a == b), [])
        | .neq => some (.bool (!(a == b)), [])
        | _ => none)
      | _ => none)
    | _, _ => (match y with
      | .cst v => (match op with
        | .eql => (match eqRaw P t x v with
          | some b => some (.bool b, [])
          | none => (eqNil P t x v).map fun b => (.cst (.bool b), []))
        | .neq => (match eqRaw P t x v with
          | some b => some (.bool (!b), [])
          | none => (eqNil P t x v).map fun b => (.cst (.bool (!b)), []))
        | _ => none)
      | _ => none)

theorem run_binInt {op : BinOp} {k : IntKind} {a b : Int} {yo : Operand} {v : LV} {ns : NeedL} {β : List Nat} (hy : ∀ n, litI yo = some n → n = b)
    (h : binInt op k a b yo = some (v, ns)) (hn : allP β ns) (t : TypeId) : (binOp op t (.int k a) (.int k b)).run P w = .ok (den β v) w := by
  have hnz : ∀ {ms}, nz yo b = some ms → allP β ms → b ≠ 0 := by
    intro ms hm hms
    unfold nz at hm
    split at hm
    · rename_i n hl
      have := hy n hl
      subst this
      split at hm
      · cases hm
      · rename_i n hne
        exact fun e => hne (by rw [e]; rfl)
    · cases hm; exact hms.1
  cases op <;> simp only [binInt, Option.some.injEq, Prod.mk.injEq, Option.map_eq_some_iff, reduceCtorEq] at h
  case quo => obtain ⟨ms, hm, rfl, rfl⟩ := h; simp [binOp, Op.intDiv, hnz hm hn, den]
  case rem => obtain ⟨ms, hm, rfl, rfl⟩ := h; simp [binOp, Op.intDiv, hnz hm hn, den]
  all_goals
    obtain ⟨rfl, rfl⟩ := h
    simp [binOp, Op.intArith, Op.intBits, Op.intCmp, den, ibits]

theorem sameShp_spec {a b : Option Shp} (h : sameShp a b = true) : ∃ x, a = some x ∧ b = some x := by
  cases a <;> cases b <;> simp [sameShp] at h
  rename_i x y; cases x <;> cases y <;> simp [Shp.eq] at h <;> exact ⟨_, rfl, rfl⟩

theorem run_eqNil {t : TypeId} {x : LV} {v : Value} {b : Bool} {β : List Nat} (h : eqNil P t x v = some b) : (Op.equal t (den β x) v).run P w = .ok b w ∧ (∀ op xo yo, eqGuard op t xo yo (den β x) v = pure ()) := by
  unfold eqNil at h
  cases hu : P.underlying t with
  | none => rw [hu] at h; cases h
  | some d =>
    rw [hu] at h
    simp only at h
    cases hs : sameShp (shpT d) (shpL x) && sameShp (shpT d) (shpC v) <;> rw [hs] at h
    · cases h
    · simp only [cond_true] at h
      simp only [Bool.and_eq_true] at hs
      obtain ⟨sh, hd, hx⟩ := sameShp_spec hs.1
      obtain ⟨sh', hd', hv⟩ := sameShp_spec hs.2
      rw [hd] at hd'; cases hd'
      have key : ∀ n, (Op.equalIn (n + 1) t (den β x) v).run P w = .ok b w := by
        intro n
        cases d <;> simp only [shpT, Option.some.injEq, reduceCtorEq] at hd <;> subst hd
        all_goals
          unfold shpC at hv
          split at hv <;> simp only [Option.some.injEq, reduceCtorEq] at hv
          unfold shpL at hx
          split at hx <;> simp only [Option.some.injEq, reduceCtorEq] at hx <;> simp only [isNil, isNilC, cond_true, Option.some.injEq] at h <;> subst h <;>
            simp [Op.equalIn, run_underlying hu, den]
      refine ⟨key 9999, fun op xo yo => ?_⟩
      unfold shpC at hv
      split at hv <;> simp only [Option.some.injEq, reduceCtorEq] at hv <;> subst hv
      all_goals
        unfold shpL at hx
        split at hx <;> simp only [Option.some.injEq, reduceCtorEq] at hx <;> cases op <;> rfl

theorem run_eqRaw {t : TypeId} {x : LV} {v : Value} {b : Bool} {β : List Nat} (h : eqRaw P t x v = some b) (xo yo : Operand) :
    ((do eqGuard .eql t xo yo (den β x) v; binOp .eql t (den β x) v) : Sem Value).run P w = .ok (.bool b) w ∧ ((do eqGuard .neq t xo yo (den β x) v; binOp .neq t (den β x) v) : Sem Value).run P w = .ok (.bool (!b)) w := by
  unfold eqRaw at h
  split at h
  · rename_i e y n c n' c' hu
    simp only [Option.some.injEq] at h
    subst h
    have key : ∀ n0, (Op.equalIn (n0 + 1) t (.slice y n c) (.slice none n' c')).run P w = .ok y.isNone w := by
      intro n0; cases y <;> simp [Op.equalIn, run_underlying hu]
    have k2 : (Op.equal t (.slice y n c) (.slice none n' c')).run P w = .ok y.isNone w := key 9999
    constructor <;> simp [eqGuard, binOp, den, k2]
  · rename_i e y hu
    simp only [Option.some.injEq] at h
    subst h
    have key : ∀ n0, (Op.equalIn (n0 + 1) t (.pointer y) (.pointer none)).run P w = .ok y.isNone w := by
      intro n0; cases y <;> simp [Op.equalIn, run_underlying hu]
    have k2 : (Op.equal t (.pointer y) (.pointer none)).run P w = .ok y.isNone w := key 9999
    constructor <;> simp [eqGuard, binOp, den, k2]
  · rename_i k e y hu
    simp only [Option.some.injEq] at h
    subst h
    have key : ∀ n0, (Op.equalIn (n0 + 1) t (.map y) (.map none)).run P w = .ok y.isNone w := by
      intro n0; cases y <;> simp [Op.equalIn, run_underlying hu]
    have k2 : (Op.equal t (.map y) (.map none)).run P w = .ok y.isNone w := key 9999
    constructor <;> simp [eqGuard, binOp, den, k2]
  · cases h

theorem run_eqBool {t : TypeId} (hu : P.underlying t = some .bool) (a b : Bool) : (Op.equal t (.bool a) (.bool b)).run P w = .ok (a == b) w := by
  have key : ∀ n, (Op.equalIn (n + 1) t (.bool a) (.bool b)).run P w = .ok (a == b) w := fun n => by simp [Op.equalIn, run_underlying hu]
  exact key 9999

theorem run_binV {op : BinOp} {t : TypeId} {x y : LV} {xo yo : Operand} {v : LV} {ns : NeedL} {β : List Nat} 
    (hl : ∀ n, litI yo = some n → ∃ k, y = .int k n)
    (h : binV P op t x y yo = some (v, ns)) (hn : allP β ns) :
    ((do eqGuard op t xo yo (den β x) (den β y); binOp op t (den β x) (den β y)) : Sem Value).run P w = .ok (den β v) w := by
  unfold binV at h
  split at h
  · rename_i k a k' b
    have hlit : ∀ n, litI yo = some n → n = b := fun n hn => by obtain ⟨_, e⟩ := hl n hn; cases e; rfl
    have hg : eqGuard op t xo yo (den β (.int k a)) (den β (.int k' b)) = pure () := by cases op <;> rfl
    rw [hg]
    simp only [pure_bind]
    have shf : ∀ n : Nat, litI yo = some (.ofNat n) → b = (n : Int) := fun n hn => (hlit _ hn).symm
    split at h
    · split at h
      · rename_i n hlt
        obtain ⟨rfl, rfl⟩ : LV.int k (k.wrap (a * 2 ^ (min n k.bits))) = v ∧ [] = ns := by simpa using h
        have := shf n hlt
        subst this
        simp [den, binOp, Op.shift]
        intro hneg; omega
      · cases h
    · split at h
      · rename_i n hlt
        obtain ⟨rfl, rfl⟩ : LV.int k (a.fdiv (2 ^ (min n k.bits))) = v ∧ [] = ns := by simpa using h
        have := shf n hlt
        subst this
        simp [den, binOp, Op.shift]
        intro hneg; omega
      · cases h
    · split at h
      · rename_i hk
        subst hk
        exact run_binInt hlit h hn t
      · cases h
  · rename_i a b
    have hg : eqGuard op t xo yo (den β (.str a)) (den β (.str b)) = pure () := by cases op <;> rfl
    rw [hg]
    simp only [pure_bind]
    split at h <;> simp only [Option.some.injEq, Prod.mk.injEq, reduceCtorEq] at h
    all_goals
      obtain ⟨rfl, rfl⟩ := h
      simp [den, binOp, Op.stringOp]
  · split at h
    · rename_i a b hx hy
      split at h
      · rename_i hu
        have e1 := bl_spec hx β
        have e2 := bl_spec hy β
        rw [e1, e2]
        have hg : eqGuard op t xo yo (.bool a) (.bool b) = pure () := by cases op <;> rfl
        rw [hg]
        simp only [pure_bind]
        split at h <;> simp only [Option.some.injEq, Prod.mk.injEq, reduceCtorEq] at h
        all_goals
          obtain ⟨rfl, rfl⟩ := h
          simp [den, binOp, run_eqBool hu]
      · cases h
    · split at h
      · rename_i u _ _ _
        split at h
        · cases hr : eqRaw P t x u with
          | some b =>
            rw [hr] at h
            obtain ⟨rfl, rfl⟩ : LV.bool b = v ∧ [] = ns := by simpa using h
            exact (run_eqRaw hr xo yo).1
          | none =>
          rw [hr] at h
          obtain ⟨b, hb, he⟩ := Option.map_eq_some_iff.1 h
          obtain ⟨rfl, rfl⟩ : LV.cst (.bool b) = v ∧ [] = ns := by simpa using he
          obtain ⟨h1, h2⟩ := run_eqNil (β := β) (w := w) hb
          simp only [den] at h2 ⊢
          rw [h2]
          simp only [pure_bind]
          have hb2 : binOp .eql t (den β x) u = (do pure (.bool (← Op.equal t (den β x) u))) := by
            unfold eqNil at hb
            cases hu : P.underlying t with
            | none => rw [hu] at hb; cases hb
            | some d =>
              rw [hu] at hb
              simp only at hb
              cases hs : sameShp (shpT d) (shpL x) && sameShp (shpT d) (shpC u) <;> rw [hs] at hb
              · cases hb
              · simp only [Bool.and_eq_true] at hs
                obtain ⟨sh, hd, hx⟩ := sameShp_spec hs.1
                obtain ⟨sh', hd', hv⟩ := sameShp_spec hs.2
                unfold shpC at hv
                split at hv <;> simp only [Option.some.injEq, reduceCtorEq] at hv
                all_goals
                  unfold shpL at hx
                  split at hx <;> simp only [Option.some.injEq, reduceCtorEq] at hx <;> rfl
          rw [hb2]
          simp [h1]
        · cases hr : eqRaw P t x u with
          | some b =>
            rw [hr] at h
            obtain ⟨rfl, rfl⟩ : LV.bool (!b) = v ∧ [] = ns := by simpa using h
            exact (run_eqRaw hr xo yo).2
          | none =>
          rw [hr] at h
          obtain ⟨b, hb, he⟩ := Option.map_eq_some_iff.1 h
          obtain ⟨rfl, rfl⟩ : LV.cst (.bool (!b)) = v ∧ [] = ns := by simpa using he
          obtain ⟨h1, h2⟩ := run_eqNil (β := β) (w := w) hb
          simp only [den] at h2 ⊢
          rw [h2]
          simp only [pure_bind]
          have hb2 : binOp .neq t (den β x) u = (do pure (.bool (!(← Op.equal t (den β x) u)))) := by
            unfold eqNil at hb
            cases hu : P.underlying t with
            | none => rw [hu] at hb; cases hb
            | some d =>
              rw [hu] at hb
              simp only at hb
              cases hs : sameShp (shpT d) (shpL x) && sameShp (shpT d) (shpC u) <;> rw [hs] at hb
              · cases hb
              · simp only [Bool.and_eq_true] at hs
                obtain ⟨sh, hd, hx⟩ := sameShp_spec hs.1
                obtain ⟨sh', hd', hv⟩ := sameShp_spec hs.2
                unfold shpC at hv
                split at hv <;> simp only [Option.some.injEq, reduceCtorEq] at hv
                all_goals
                  unfold shpL at hx
                  split at hx <;> simp only [Option.some.injEq, reduceCtorEq] at hx <;> rfl
          rw [hb2]
          simp [h1]
        · cases h
      · cases h

end
end Go.E
