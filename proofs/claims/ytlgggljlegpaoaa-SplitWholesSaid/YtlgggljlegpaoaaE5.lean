/-
  What one operation that touches no memory yields, whole: 'evalPure'.
-/
import Derived.Test.YtlgggljlegpaoaaE4
namespace Go.E

def litB : Operand → Option Bool
  | .const (.bool b) => some b
  | _ => none

def ctxTag (c : Ctx) (t : Nat) (w : Bool) : Bool :=
  match c with
  | some (t0, w0, _) => Nat.beq t t0 && eqb w w0
  | none => false

/-- The operand of a choice by slot t, where t bears w. -/
def argP (fr : Fr) (c : Ctx) (t : Nat) (w : Bool) (x : Operand) : Option LV :=
  match opv fr x with
  | some (.gd t' w' _ v) => bif (Nat.beq t' t && eqb w' w) || ctxTag c t' w' then some v else none
  | r => r

def evalPick (fr : Fr) (c : Ctx) (cnd a b : Operand) : Option LV :=
  match cnd with
  | .tmp t => (arg fr c cnd).bind fun cv =>
    (match cv with
    | .cst (.bool true) => argP fr c t true a
    | .cst (.bool false) => argP fr c t false b
    | .bool cb =>
      (match litB b with
      | some false => (argP fr c t true a).bind fun x => (bl x).map fun x => .bool (cb && x)
      | _ => match litB a with
      | some true => (argP fr c t false b).bind fun y => (bl y).map fun y => .bool (cb || y)
      | _ => (argP fr c t true a).bind fun x => (argP fr c t false b).bind fun y => (match x, y with
        | .bool x, .bool y => some (.bool (bif cb then x else y))
        | .int k x, .int k' y => if k = k' then some (.int k (bif cb then x else y)) else none
        | _, _ => none))
    | _ => none)
  | _ => none

def unV (op : UnOp) (x : LV) : Option LV :=
  match op, x with
  | .not, .bool b => some (.bool (!b))
  | .not, .cst (.bool b) => some (.cst (.bool (!b)))
  | .neg, .int k n => some (.int k (k.wrap (0 - n)))
  | .xor, .int k n => some (.int k (ibits .xor k (bif k.signed then -1 else k.max) n))
  | _, _ => none

def convV (P : Program) (s d : TypeId) (x : LV) : Option LV :=
  match x with
  | .int _ n => (match P.underlying s, P.underlying d with
    | some _, some (.int k) => some (.int k (k.wrap n))
    | _, _ => none)
  | .str t => (match P.underlying s, P.underlying d with
    | some .string, some .string => some (.str t)
    | _, _ => none)
  | _ => none

def extV (x : LV) (i : Nat) : Option LV :=
  match x with
  | .tup l => l[i]?
  | _ => none

def fieldV (P : Program) (s : TypeId) (x : LV) (f : Nat) : Option LV :=
  match x with
  | .raw (.pointer (some a)) => (match P.underlying s with
    | some (.struct fs) => (match fs[f]? with
      | some fd => (match szOf P fd.type with
        | some (_ + 1) => some (.raw (.pointer (some (a.add fd.offset))))
        | _ => none)
      | none => none)
    | _ => none)
  | .ptr i o => (match P.underlying s with
    | some (.struct fs) => (match fs[f]? with
      | some fd => (match szOf P fd.type with
        | some (_ + 1) => some (.ptr i (o + fd.offset))
        | _ => none)
      | none => none)
    | _ => none)
  | _ => none

/-- Where the k-th cell of a slice lies. -/
def adr (base : Option Addr) (k : Nat) : Addr := (base.getD ⟨0, 0, none⟩).add k

def indexV (P : Program) (t : TypeId) (x iv : LV) : Option (LV × NeedL) :=
  match iv with
  | .int _ i => (match P.underlying t, x with
    | some (.slice e), .sl id o len _ => (szOf P e).map fun sz => (.ptr id (o + i.toNat * sz), [fun _ => 0 ≤ i ∧ i < len])
    | some (.array len e), .ptr id o => (szOf P e).map fun sz => (.ptr id (o + i.toNat * sz), [fun _ => 0 ≤ i ∧ i < len])
    | some (.slice e), .raw (.slice base len _) => (szOf P e).map fun sz => (.raw (.pointer (some (adr base (i.toNat * sz)))), [fun _ => 0 ≤ i ∧ i < len ∧ base.isSome = true])
    | _, _ => none)
  | _ => none

def bnd (x : Option LV) (dflt : Nat) : Option Nat :=
  match x with
  | none => some dflt
  | some (.int _ i) => some i.toNat
  | _ => none
def bndN (x : Option LV) (y : Nat) : NeedL :=
  match x with
  | some (.int _ i) => [fun _ => 0 ≤ i ∧ i ≤ y]
  | _ => []
def isInt : LV → Bool
  | .int _ _ => true
  | _ => false
def okBnd : Option LV → Bool
  | none => true
  | some x => isInt x

def toN : Option LV → Nat → Nat
  | some (.int _ i), _ => i.toNat
  | _, d => d

def sliceV (P : Program) (t : TypeId) (x : LV) (lo hi mx : Option LV) : Option (LV × NeedL) :=
  bif okBnd lo && okBnd hi && okBnd mx && !(mx.isSome && hi.isNone) then
    match P.underlying t, x with
    | some (.slice e), .sl id o len cap => (szOf P e).map fun sz =>
      let m := toN mx cap
      let h := toN hi len
      let l := toN lo 0
      (.sl id (match lo with | none => o | some _ => if m = l then o else o + l * sz) (h - l) (m - l), bndN mx cap ++ bndN hi m ++ bndN lo h)
    | some (.slice e), .cst (.slice none 0 0) => (szOf P e).map fun _ =>
      (.cst (.slice none 0 0), bndN mx 0 ++ bndN hi 0 ++ bndN lo 0)
    | some (.slice e), .raw (.slice base len cap) => (szOf P e).map fun sz =>
      let m := toN mx cap
      let h := toN hi len
      let l := toN lo 0
      (.raw (.slice (match lo with | none => base | some _ => if m = l then base else base.map fun a => a.add (l * sz)) (h - l) (m - l)), bndN mx cap ++ bndN hi m ++ bndN lo h)
    | some .string, .str s => (match mx with
      | none => some (.str (s.extract (toN lo 0) (toN hi s.size)), bndN hi s.size ++ bndN lo (toN hi s.size))
      | some _ => none)
    | _, _ => none
  else none

def args (fr : Fr) (c : Ctx) : List Operand → Option (List LV)
  | [] => some []
  | x :: r => (arg fr c x).bind fun v => (args fr c r).map fun l => v :: l

def oarg (fr : Fr) (c : Ctx) : Option Operand → Option (Option LV)
  | none => some none
  | some x => (arg fr c x).map some

def lenV (P : Program) (t : TypeId) (x : LV) : Option LV :=
  match P.underlying t, x with
  | some (.slice _), .sl _ _ n _ => some (.int .i64 n)
  | some (.slice _), .cst (.slice none 0 0) => some (.int .i64 0)
  | some (.slice _), .raw (.slice _ n _) => some (.int .i64 n)
  | some .string, .str s => some (.int .i64 s.size)
  | some (.map _ _), .cst (.map none) => some (.int .i64 0)
  | some (.array n _), _ => some (.int .i64 n)
  | _, _ => none

def builtinV (P : Program) (b : Builtin) (ts : List TypeId) (l : List LV) : Option LV :=
  match b, l with
  | .len, [x] => (match ts with | t :: _ => lenV P t x | [] => none)
  | .min, [.int k x, .int _ y] => some (.int k (if y < x then y else x))
  | .max, [.int k x, .int _ y] => some (.int k (if y > x then y else x))
  | _, _ => none

def nilCk (x : LV) : Option LV :=
  match x with
  | .ptr _ _ => some x
  | .sl _ _ _ _ => some x
  | .mp _ => some x
  | .fn _ _ => some x
  | _ => none

/-- The cells of a value that is laid into memory, or into a struct. -/
def cellsN (x : LV) : Option (List LV × NeedL) :=
  match x with
  | .agg l => (oneN l).map fun ns => (l, ns)
  | .raw v => some ([.raw v], [fun _ => Value.one v = true])
  | .cst (.agg cs) => bif cs.toList.all Value.one then some (cs.toList.map ofV, []) else none
  | .cst v => bif Value.one v then some ([.cst v], []) else none
  | .gd _ _ _ _ => none
  | .tup _ => none
  | x => some ([x], [])

def setL {α : Type} : List α → Nat → List α → List α
  | cs, _, [] => cs
  | cs, off, v :: r => setL (cs.set off v) (off + 1) r

def fillL (place : Nat → Option (Nat × Nat)) (cells : List LV) : List (Nat × List LV) → Option (List LV)
  | [] => some cells
  | (i, v) :: r =>
    match place i with
    | none => none
    | some (off, size) => bif Nat.beq v.length size && Nat.ble (off + v.length) cells.length then fillL place (setL cells off v) r else none

def partsN (fr : Fr) (c : Ctx) : List (Nat × Operand) → Option (List (Nat × List LV) × NeedL)
  | [] => some ([], [])
  | (i, x) :: r => (arg fr c x).bind fun v => (cellsN v).bind fun (cs, m) => (partsN fr c r).map fun (l, q) => ((i, cs) :: l, m ++ q)

def placesL (P : Program) : List Field → Option (List (Nat × Nat))
  | [] => some []
  | f :: r => (szOf P f.type).bind fun n => (placesL P r).map fun l => (f.offset, n) :: l

def zeroL (P : Program) (t : TypeId) : Option (List LV) :=
  match P.info? t with
  | some i => (match i.zero with
    | some z => bif z.cells.toList.all Value.one then some (z.cells.toList.map ofV) else none
    | none => none)
  | none => none

def buildV (P : Program) (fr : Fr) (c : Ctx) (t : TypeId) (parts : List (Nat × Operand)) : Option (LV × NeedL) :=
  match P.underlying t with
  | some (.struct fs) => (zeroL P t).bind fun z => (placesL P fs.toList).bind fun pl => (partsN fr c parts).bind fun (ps, ns) =>
      (fillL (fun i => pl[i]?) z ps).map fun cs => (.agg cs, ns)
  | _ => none

def partV (P : Program) (t : TypeId) (x : LV) (f : Nat) : Option LV :=
  match P.underlying t, x with
  | some (.struct fs), .agg cs => (match fs[f]? with
    | some fd => (match aggT P fd.type with
      | some true => (szOf P fd.type).map fun n => .agg ((cs.drop fd.offset).take n)
      | some false => cs[fd.offset]?
      | none => none)
    | none => none)
  | _, _ => none

def evalPure (P : Program) (fr : Fr) (c : Ctx) (o : Oper) : Option (LV × NeedL) :=
  match o.op with
  | .move x => (arg fr c x).map fun v => (v, [])
  | .assign x => (arg fr c x).map fun v => (v, [])
  | .pick cnd a b => (evalPick fr c cnd a b).map fun v => (v, [])
  | .binOp op t x y _ => (arg fr c x).bind fun x' => (arg fr c y).bind fun y' => binV P op t x' y' y
  | .unOp op _ x => (arg fr c x).bind fun x' => (unV op x').map fun v => (v, [])
  | .convert s d x => (arg fr c x).bind fun x' => (convV P s d x').map fun v => (v, [])
  | .extract x i => (arg fr c x).bind fun x' => (extV x' i).map fun v => (v, [])
  | .fieldAddr s x f => (arg fr c x).bind fun x' => (fieldV P s x' f).map fun v => (v, [])
  | .indexAddr t x i => (arg fr c x).bind fun x' => (arg fr c i).bind fun i' => indexV P t x' i'
  | .slice t x lo hi mx => (arg fr c x).bind fun x' => (oarg fr c lo).bind fun l' => (oarg fr c hi).bind fun h' => (oarg fr c mx).bind fun m' => sliceV P t x' l' h' m'
  | .nilCheck x => (arg fr c x).bind fun x' => (nilCk x').map fun v => (v, [])
  | .makeFunc (.func f) fst cap => bif fst.isEmpty then (args fr c cap.toList).map fun l => (.fn f l, []) else none
  | .build t parts => buildV P fr c t parts.toList
  | .field t x f => (arg fr c x).bind fun x' => (partV P t x' f).map fun v => (v, [])
  | .call { callee := .builtin b, args := as, argTypes := ts } => (args fr c as.toList).bind fun l => (builtinV P b ts.toList l).map fun v => (v, [])
  | _ => none

/-! ### Soundness -/
section
variable {P : Program} {β : List Nat} {fr : Fr} {a : Act} {w : World} {c : Ctx}

theorem run_val {ρ : Operand → Value} {o : Oper} {s : Sem Value} {v : Value} {w' : World} (he : execOp ρ o = (do pure (.value (← s)))) (h : s.run P w = .ok v w') :
    (execOp ρ o).run P w = .ok (.value v) w' := by rw [he]; simp [h]

theorem litB_spec {x : Operand} {b : Bool} (h : litB x = some b) (a : Act) : a.eval x = .bool b := by
  unfold litB at h; split at h <;> cases h; rfl

theorem argP_spec (ha : Agree β fr a) (hg : GdOk fr) (hc : Cok fr c) {t : Nat} {w : Bool} {u : LV} (hu : fr.get t = some u) (hw : ∀ b, condOf u w = some b → b = true) {x : Operand} {v : LV}
    (h : argP fr c t w x = some v) : a.eval x = den β v := by
  unfold argP at h
  split at h
  · rename_i t' w' c' y hy
    have e := opv_spec ha hy
    obtain ⟨s, rfl, hs⟩ := opv_get hy
    obtain ⟨z, hz, hz'⟩ := hg _ _ _ _ _ hs
    cases hb : (Nat.beq t' t && eqb w' w) || ctxTag c t' w' <;> rw [hb] at h
    · cases h
    · simp only [cond_true, Option.some.injEq] at h
      subst h
      simp only [Bool.or_eq_true, Bool.and_eq_true] at hb
      have hct : c' = true := by
        rcases hb with ⟨h1, h2⟩ | h1
        · obtain rfl := Nat.eq_of_beq_eq_true h1
          obtain rfl := eqb_spec h2
          rw [hu] at hz; cases hz
          exact hw _ hz'
        · cases c with
          | none => cases h1
          | some q =>
            obtain ⟨t0, w0, b⟩ := q
            simp only [ctxTag, Bool.and_eq_true] at h1
            obtain rfl := Nat.eq_of_beq_eq_true h1.1
            obtain rfl := eqb_spec h1.2
            obtain ⟨hb1, z', hz1, hz2⟩ := hc _ _ _ rfl
            rw [hz] at hz1; cases hz1
            rw [hz'] at hz2; cases hz2
            exact hb1
      rw [e]; simp [den, hct]
  · exact opv_spec ha h

/-- What a slot bears whose operand reads as a bool. -/
theorem arg_cond (hg : GdOk fr) (hc : Cok fr c) {t : Nat} {cv : LV} {cb : Bool} (h : arg fr c (.tmp t) = some cv) (hb : bl cv = some cb) : ∃ u, fr.get t = some u ∧ ∀ w b, condOf u w = some b → b = (bif w then cb else !cb) := by
  unfold arg at h
  split at h
  · rename_i t' w' c' y hy
    simp only [opv] at hy
    split at h
    · rename_i t0 w0 b0
      cases hbb : Nat.beq t' t0 && eqb w' w0 <;> rw [hbb] at h
      · cases h
      · simp only [cond_true, Option.some.injEq] at h
        subst h
        simp only [Bool.and_eq_true] at hbb
        obtain rfl := Nat.eq_of_beq_eq_true hbb.1
        obtain rfl := eqb_spec hbb.2
        obtain ⟨z, hz, hz'⟩ := hg _ _ _ _ _ hy
        obtain ⟨hb1, z', hz1, hz2⟩ := hc _ _ _ rfl
        rw [hz] at hz1; cases hz1
        rw [hz'] at hz2; cases hz2
        subst hb1
        refine ⟨_, hy, fun w b hcb => ?_⟩
        unfold bl at hb
        split at hb <;> cases hb <;> simp only [condOf, Bool.true_and, Option.some.injEq] at hcb <;> exact hcb.symm
    · cases h
  · simp only [opv] at h
    refine ⟨_, h, fun w b hcb => ?_⟩
    unfold bl at hb
    split at hb <;> cases hb <;> simp only [condOf, Option.some.injEq] at hcb <;> exact hcb.symm

theorem evalPick_spec (ha : Agree β fr a) (hg : GdOk fr) (hc : Cok fr c) {cnd x y : Operand} {v : LV} (h : evalPick fr c cnd x y = some v) :
    ((do pure (.value (if ← asBool (a.eval cnd) then a.eval x else a.eval y))) : Sem Next).run P w = .ok (.value (den β v)) w := by
  unfold evalPick at h
  split at h
  · rename_i t
    obtain ⟨cv, h0, h⟩ := Option.bind_eq_some_iff.1 h
    have e0 := arg_spec ha hg hc h0
    rw [e0]
    have look : ∀ {cb}, bl cv = some cb → ∀ {w' : Bool}, cb = w' → ∀ {z : Operand} {u : LV}, argP fr c t w' z = some u → a.eval z = den β u := by
      intro cb hb w' hw z u hz
      obtain ⟨y, hy, hy'⟩ := arg_cond hg hc h0 hb
      refine argP_spec ha hg hc hy (fun b hcb => ?_) hz
      have := hy' _ _ hcb
      subst hw
      cases cb <;> simp_all
    split at h
    · rw [look rfl rfl h]; simp [asBool, den]
    · rw [look rfl rfl h]; simp [asBool, den]
    · rename_i cb
      split at h
      · rename_i hlb
        obtain ⟨u, h1, h⟩ := Option.bind_eq_some_iff.1 h
        obtain ⟨xb, hxb, rfl⟩ := Option.map_eq_some_iff.1 h
        rw [litB_spec hlb]
        cases cb
        · simp [asBool, den]
        · rw [look rfl rfl h1, bl_spec hxb]; simp [asBool, den]
      · split at h
        · rename_i hla
          obtain ⟨u, h1, h⟩ := Option.bind_eq_some_iff.1 h
          obtain ⟨xb, hxb, rfl⟩ := Option.map_eq_some_iff.1 h
          rw [litB_spec hla]
          cases cb
          · rw [look rfl rfl h1, bl_spec hxb]; simp [asBool, den]
          · simp [asBool, den]
        · obtain ⟨u, h1, h⟩ := Option.bind_eq_some_iff.1 h
          obtain ⟨u2, h2, h⟩ := Option.bind_eq_some_iff.1 h
          split at h
          · cases h
            cases cb
            · rw [look rfl rfl h2]; simp [asBool, den]
            · rw [look rfl rfl h1]; simp [asBool, den]
          · split at h
            · rename_i hk
              subst hk
              cases h
              cases cb
              · rw [look rfl rfl h2]; simp [asBool, den]
              · rw [look rfl rfl h1]; simp [asBool, den]
            · cases h
          · cases h
    · cases h
  · cases h

theorem unV_spec {op : UnOp} {x v : LV} (h : unV op x = some v) : (Op.unary op (den β x)).run P w = .ok (den β v) w := by
  unfold unV at h
  split at h <;> cases h
  · simp [Op.unary, den]
  · simp [Op.unary, den]
  · simp [Op.unary, den, Op.intArith]
  · rename_i k n
    cases hs : k.signed <;> simp [Op.unary, den, Op.intBits, ibits, hs]

theorem convV_spec {s d : TypeId} {x v : LV} (h : convV P s d x = some v) : (convert s d (den β x)).run P w = .ok (den β v) w := by
  unfold convV at h
  split at h
  · split at h
    · cases h
      rename_i hs hd
      simp [convert, run_underlying hs, run_underlying hd, den, Conv.intToInt]
    · cases h
  · split at h
    · cases h
      rename_i hs hd
      simp [convert, run_underlying hs, run_underlying hd, den]
    · cases h
  · cases h

theorem extV_spec {x v : LV} {i : Nat} (h : extV x i = some v) : (Instr.extract (den β x) i).run P w = .ok (den β v) w := by
  unfold extV at h
  split at h
  · rename_i l
    have : (denL β l)[i]? = some (den β v) := by rw [denL_map]; simp [h]
    simp [Instr.extract, den, this]
  · cases h

theorem fieldV_spec {s : TypeId} {x v : LV} {f : Nat} (h : fieldV P s x f = some v) : (Instr.fieldAt s (den β x) f).run P w = .ok (den β v) w := by
  unfold fieldV at h
  split at h
  · split at h
    · rename_i hs
      split at h
      · rename_i fd hf
        split at h
        · rename_i n hz
          cases h
          simp [Instr.fieldAt, run_underlying hs, hf, den, Instr.sureAddr, fieldPlace, run_sizeOf' hz]
        · cases h
      · cases h
    · cases h
  · split at h
    · rename_i hs
      split at h
      · rename_i fd hf
        split at h
        · rename_i n hz
          cases h
          simp [Instr.fieldAt, run_underlying hs, hf, den, Instr.sureAddr, fieldPlace, run_sizeOf' hz, Addr.add]
          try (split <;> simp_all)
        · cases h
      · cases h
    · cases h
  · cases h

theorem indexV_spec {t : TypeId} {x i v : LV} {ns : NeedL} (h : indexV P t x i = some (v, ns)) (hn : allP β ns) : (Instr.indexAt t (den β x) (den β i)).run P w = .ok (den β v) w := by
  unfold indexV at h
  split at h
  · rename_i k n
    split at h
    · rename_i hu
      obtain ⟨sz, hz, he⟩ := Option.map_eq_some_iff.1 h
      simp only [Prod.mk.injEq] at he
      obtain ⟨rfl, rfl⟩ := he
      have hb := hn.1
      simp [Instr.indexAt, den, asIntOf, run_underlying hu, hb, run_sizeOf' hz, Addr.add]
      try (split <;> simp_all)
    · rename_i hu
      obtain ⟨sz, hz, he⟩ := Option.map_eq_some_iff.1 h
      simp only [Prod.mk.injEq] at he
      obtain ⟨rfl, rfl⟩ := he
      have hb := hn.1
      simp [Instr.indexAt, den, asIntOf, run_underlying hu, hb, run_sizeOf' hz, Addr.add, Instr.sureAddr]
      try (split <;> simp_all)
    · rename_i base len cap hu
      obtain ⟨sz, hz, he⟩ := Option.map_eq_some_iff.1 h
      simp only [Prod.mk.injEq] at he
      obtain ⟨rfl, rfl⟩ := he
      obtain ⟨⟨hb1, hb2, hb3⟩, _⟩ := hn
      obtain ⟨a, rfl⟩ := Option.isSome_iff_exists.1 hb3
      simp [Instr.indexAt, den, asIntOf, run_underlying hu, hb1, hb2, run_sizeOf' hz, adr]
    · cases h
  · cases h

theorem run_bound {k : IntKind} {i : Int} {y : Nat} {code : BoundsCode} (h : 0 ≤ i ∧ i ≤ y) : (Instr.sliceBound (.int k i) y code).run P w = .ok i.toNat w := by
  simp [Instr.sliceBound, asIntOf, h]

theorem okBnd_spec {x : Option LV} (h : okBnd x = true) : x = none ∨ ∃ k i, x = some (.int k i) := by
  cases x with
  | none => exact .inl rfl
  | some v => cases v <;> simp [okBnd, isInt] at h; exact .inr ⟨_, _, rfl⟩

theorem run_bounds {isS : Bool} {len cap : Nat} {lo hi mx : Option LV} (h1 : okBnd lo = true) (h2 : okBnd hi = true) (h3 : okBnd mx = true) (h4 : (mx.isSome && hi.isNone) = false)
    (hn : allP β (bndN mx cap ++ (bndN hi (toN mx cap) ++ bndN lo (toN hi len)))) :
    (Instr.sliceBounds isS len cap (lo.map (den β)) (hi.map (den β)) (mx.map (den β))).run P w = .ok (toN lo 0, toN hi len, toN mx cap) w := by
  rw [allP_append, allP_append] at hn
  obtain ⟨n1, n2, n3⟩ := hn
  rcases okBnd_spec h1 with rfl | ⟨k1, i1, rfl⟩ <;> rcases okBnd_spec h2 with rfl | ⟨k2, i2, rfl⟩ <;> rcases okBnd_spec h3 with rfl | ⟨k3, i3, rfl⟩ <;>
    simp only [Option.isSome, Option.isNone, Bool.and_true, Bool.and_false, reduceCtorEq] at h4 <;>
    simp only [bndN, allP, toN, and_true] at n1 n2 n3 <;>
    simp only [Instr.sliceBounds, toN, den, Option.map_some, Option.map_none, Option.isSome_some, Option.isSome_none, Sem.run_bind, Result.andThen, Sem.run_pure, Bool.false_eq_true, if_false, if_true, run_bound, n1, n2, n3, and_self]

theorem sliceV_spec {t : TypeId} {x v : LV} {lo hi mx : Option LV} {ns : NeedL} (h : sliceV P t x lo hi mx = some (v, ns)) (hn : allP β ns) :
    (Instr.sliceAt t (den β x) (lo.map (den β)) (hi.map (den β)) (mx.map (den β))).run P w = .ok (den β v) w := by
  unfold sliceV at h
  cases hb : okBnd lo && okBnd hi && okBnd mx && !(mx.isSome && hi.isNone) <;> rw [hb] at h
  · cases h
  · simp only [cond_true] at h
    simp only [Bool.and_eq_true, Bool.not_eq_true'] at hb
    obtain ⟨⟨⟨h1, h2⟩, h3⟩, h4⟩ := hb
    split at h
    · rename_i e id o len cap hu
      obtain ⟨sz, hz, he⟩ := Option.map_eq_some_iff.1 h
      simp only [Prod.mk.injEq] at he
      obtain ⟨rfl, rfl⟩ := he
      rw [List.append_assoc] at hn
      have hb := run_bounds (P := P) (w := w) (isS := true) h1 h2 h3 h4 hn
      simp only [Instr.sliceAt, Instr.slice, run_underlying hu, Sem.run_bind, Result.andThen, den, hb, run_sizeOf' hz, Sem.run_pure]
      cases lo with
      | none => by_cases hm : toN mx cap = 0 <;> simp [toN, Addr.add]
      | some l =>
        by_cases hm : toN mx cap = toN (some l) 0
        · simp [hm]
        · simp only [if_neg hm, Option.map_some, Addr.add]
          split
          · rename_i h0; simp [h0]
          · rfl
    · rename_i hu
      obtain ⟨sz, hz, he⟩ := Option.map_eq_some_iff.1 h
      simp only [Prod.mk.injEq] at he
      obtain ⟨rfl, rfl⟩ := he
      rw [List.append_assoc] at hn
      have e1 : toN mx 0 = 0 := by
        rw [allP_append] at hn
        rcases okBnd_spec h3 with rfl | ⟨k, i, rfl⟩
        · rfl
        · have := hn.1.1; simp [toN]; omega
      have e2 : toN hi 0 = 0 := by
        rw [allP_append, allP_append] at hn
        rcases okBnd_spec h2 with rfl | ⟨k, i, rfl⟩
        · rfl
        · have := hn.2.1.1; simp [toN]; omega
      have e3 : toN lo 0 = 0 := by
        rw [allP_append, allP_append] at hn
        rcases okBnd_spec h1 with rfl | ⟨k, i, rfl⟩
        · rfl
        · have := hn.2.2.1; simp [toN]; omega
      have hb := run_bounds (P := P) (w := w) (isS := true) (len := 0) (cap := 0) h1 h2 h3 h4 (by rw [e1, e2]; exact hn)
      simp only [Instr.sliceAt, Instr.slice, run_underlying hu, Sem.run_bind, Result.andThen, den, hb, run_sizeOf' hz, Sem.run_pure, e1, e2, e3]
      simp
    · rename_i e base len cap hu
      obtain ⟨sz, hz, he⟩ := Option.map_eq_some_iff.1 h
      simp only [Prod.mk.injEq] at he
      obtain ⟨rfl, rfl⟩ := he
      rw [List.append_assoc] at hn
      have hb := run_bounds (P := P) (w := w) (isS := true) h1 h2 h3 h4 hn
      simp only [Instr.sliceAt, Instr.slice, run_underlying hu, Sem.run_bind, Result.andThen, den, hb, run_sizeOf' hz, Sem.run_pure]
      cases base with
      | none => cases lo <;> simp
      | some a =>
        cases lo with
        | none => by_cases hm : toN mx cap = 0 <;> simp [toN, Addr.add]
        | some l =>
          by_cases hm : toN mx cap = toN (some l) 0
          · simp [hm]
          · simp only [if_neg hm, Option.map_some, Addr.add]
    · rename_i s hu
      split at h
      · cases h
        replace hn : allP β (bndN none s.size ++ (bndN hi (toN none s.size) ++ bndN lo (toN hi s.size))) := hn
        have hb := run_bounds (P := P) (w := w) (isS := false) (mx := none) h1 h2 h3 h4 hn
        simp only [Option.map_none] at hb
        simp only [Instr.sliceAt, Instr.slice, run_underlying hu, Sem.run_bind, Result.andThen, den, hb, Sem.run_pure, Option.map_none, Option.isSome_none, Bool.false_eq_true, if_false]
      · cases h
    · cases h

theorem args_spec (ha : Agree β fr a) (hg : GdOk fr) (hc : Cok fr c) : ∀ {xs : List Operand} {l : List LV}, args fr c xs = some l → xs.map a.eval = denL β l
  | [], _, h => by cases h; rfl
  | x :: r, l, h => by
    simp only [args] at h
    obtain ⟨v, h1, h⟩ := Option.bind_eq_some_iff.1 h
    obtain ⟨l', h2, rfl⟩ := Option.map_eq_some_iff.1 h
    simp only [List.map_cons, denL, arg_spec ha hg hc h1, args_spec ha hg hc h2]

theorem oarg_spec (ha : Agree β fr a) (hg : GdOk fr) (hc : Cok fr c) {x : Option Operand} {l : Option LV} (h : oarg fr c x = some l) : x.map a.eval = l.map (den β) := by
  cases x with
  | none => cases h; rfl
  | some x =>
    simp only [oarg] at h
    obtain ⟨v, h1, rfl⟩ := Option.map_eq_some_iff.1 h
    simp [arg_spec ha hg hc h1]

theorem lenV_spec {t : TypeId} {x v : LV} {ts : Array TypeId} {vs : Array Value} {ty : TypeId} (ht : ts[0]? = some t) (hv : vs[0]? = some (den β x)) (h : lenV P t x = some v) :
    (Builtin.len_ ts ty vs).run P w = .ok (den β v) w := by
  unfold lenV at h
  unfold Builtin.len_
  simp only [ht, hv]
  split at h <;> try cases h
  all_goals
    rename_i hu
    simp [run_underlying hu, den, goInt]

theorem builtinV_spec {b : Builtin} {ts : Array TypeId} {l : List LV} {v : LV} {ty : TypeId} {cs : Array Bool} (h : builtinV P b ts.toList l = some v) :
    (builtin b ts ty cs (denL β l).toArray).run P w = .ok (.value (den β v)) w := by
  unfold builtinV at h
  split at h
  · rename_i x
    split at h
    · rename_i t r ht
      have h0 : ts[0]? = some t := by rw [← Array.getElem?_toList, ht]; rfl
      have := lenV_spec (P := P) (w := w) (β := β) (ty := ty) (vs := (denL β [x]).toArray) h0 (by simp [denL]) h
      simp [builtin, this]
    · cases h
  · cases h; simp [builtin, Builtin.min_, denL, den, Builtin.min2]
  · cases h; simp [builtin, Builtin.max_, denL, den, Builtin.max2]
  · cases h

theorem cellsN_spec {x : LV} {l : List LV} {ns : NeedL} (h : cellsN x = some (l, ns)) (hn : allP β ns) : (den β x).cells.toList = denL β l ∧ ∀ v ∈ denL β l, Value.one v = true := by
  have single : ∀ v, Value.one v = true → v.cells.toList = [v] := fun v hv => by cases v <;> first | rfl | simp [Value.one] at hv
  unfold cellsN at h
  split at h
  · obtain ⟨ms, hm, he⟩ := Option.map_eq_some_iff.1 h
    simp only [Prod.mk.injEq] at he
    obtain ⟨rfl, rfl⟩ := he
    exact ⟨by simp [den, Value.cells], oneN_spec hm hn⟩
  · cases h
    exact ⟨by simp only [den]; rw [single _ hn.1]; rfl, by simp [denL, den, hn.1]⟩
  · rename_i cs
    cases hb : cs.toList.all Value.one <;> rw [hb] at h
    · cases h
    · cases h
      have : denL β (cs.toList.map ofV) = cs.toList := by rw [denL_map, List.map_map]; simp [Function.comp_def, den_ofV]
      exact ⟨by rw [this]; rfl, by rw [this]; exact List.all_eq_true.1 hb⟩
  · rename_i v _
    cases hb : Value.one v <;> rw [hb] at h
    · cases h
    · cases h
      exact ⟨by simp only [den]; rw [single _ hb]; rfl, by simp [denL, den, hb]⟩
  · cases h
  · cases h
  · cases h
    rename_i h1 h2 h3 h4 h5 h6
    cases x
    case raw => exact absurd rfl (h2 _)
    case cst => exact absurd rfl (h4 _)
    case agg => exact absurd rfl (h1 _)
    case tup => exact absurd rfl (h6 _)
    case gd => exact absurd rfl (h5 _ _ _ _)
    all_goals exact ⟨rfl, by simp [denL, den, Value.one]⟩

theorem setL_length {α : Type} : ∀ (vs cs : List α) (off : Nat), (setL cs off vs).length = cs.length
  | [], _, _ => rfl
  | v :: r, cs, off => by simp only [setL]; rw [setL_length r]; simp
theorem setL_map {α γ : Type} (g : α → γ) : ∀ (vs cs : List α) (off : Nat), (setL cs off vs).map g = setL (cs.map g) off (vs.map g)
  | [], _, _ => rfl
  | v :: r, cs, off => by simp only [setL, List.map_cons]; rw [setL_map g r]; simp
theorem denL_length (β : List Nat) (l : List LV) : (denL β l).length = l.length := by rw [denL_map]; simp
theorem denL_setL (β : List Nat) (cs vs : List LV) (off : Nat) : denL β (setL cs off vs) = setL (denL β cs) off (denL β vs) := by simp only [denL_map, setL_map]

theorem fold_setL : ∀ (vs : List Value) (cs : Array Value) (off j : Nat), ((vs.zipIdx j).foldl (fun cs (x : Value × Nat) => cs.setIfInBounds (off + x.2) x.1) cs).toList = setL cs.toList (off + j) vs
  | [], _, _, _ => rfl
  | v :: r, cs, off, j => by
    simp only [List.zipIdx_cons, List.foldl_cons, setL]
    rw [fold_setL r]
    simp [Nat.add_assoc]

theorem fillL_spec {place : Nat → Option (Nat × Nat)} : ∀ {ps : List (Nat × List LV)} {cells out : List LV} {vs : List (Nat × Value)} {ca : Array Value},
    fillL place cells ps = some out → ca.toList = denL β cells → vs.map (fun p => (p.1, p.2.cells.toList)) = ps.map (fun p => (p.1, denL β p.2)) →
    Instr.fill place ca vs = some (denL β out).toArray
  | [], cells, out, vs, ca, h, hc, hv => by
    cases h
    cases vs with
    | nil => simp [Instr.fill, ← hc]
    | cons => simp at hv
  | (i, v) :: r, cells, out, vs, ca, h, hc, hv => by
    cases vs with
    | nil => simp at hv
    | cons y ys =>
      obtain ⟨j, u⟩ := y
      simp only [List.map_cons, List.cons.injEq, Prod.mk.injEq] at hv
      obtain ⟨⟨rfl, hu⟩, hr⟩ := hv
      simp only [fillL] at h
      cases hp : place j with
      | none => rw [hp] at h; cases h
      | some q =>
        obtain ⟨off, size⟩ := q
        rw [hp] at h
        simp only at h
        cases hb : Nat.beq v.length size && Nat.ble (off + v.length) cells.length <;> rw [hb] at h
        · cases h
        · simp only [cond_true] at h
          simp only [Bool.and_eq_true] at hb
          have e1 := Nat.eq_of_beq_eq_true hb.1
          have e2 := Nat.le_of_ble_eq_true hb.2
          have su : u.cells.size = v.length := by rw [← Array.length_toList, hu, denL_length]
          have sc : ca.size = cells.length := by rw [← Array.length_toList, hc, denL_length]
          simp only [Instr.fill, hp]
          rw [if_neg (by simp [su, sc, e1] at *; omega)]
          refine fillL_spec h ?_ hr
          rw [← Array.foldl_toList]
          have := fold_setL u.cells.toList ca off 0
          simp only [Array.toList_zipIdx] at *
          rw [this, hc, hu, denL_setL]; rfl

theorem partsN_spec (ha : Agree β fr a) (hg : GdOk fr) (hc : Cok fr c) : ∀ {xs : List (Nat × Operand)} {l : List (Nat × List LV)} {ns : NeedL}, partsN fr c xs = some (l, ns) → allP β ns →
    (xs.map fun (i, x) => (i, a.eval x)).map (fun p => (p.1, p.2.cells.toList)) = l.map (fun p => (p.1, denL β p.2))
  | [], _, _, h, _ => by cases h; rfl
  | (i, x) :: r, l, ns, h, hn => by
    simp only [partsN] at h
    obtain ⟨v, h1, h⟩ := Option.bind_eq_some_iff.1 h
    obtain ⟨⟨cs, m⟩, h2, h⟩ := Option.bind_eq_some_iff.1 h
    obtain ⟨⟨l', q⟩, h3, he⟩ := Option.map_eq_some_iff.1 h
    simp only [Prod.mk.injEq] at he
    obtain ⟨rfl, rfl⟩ := he
    rw [allP_append] at hn
    have ih := partsN_spec ha hg hc h3 hn.2
    simp only [List.map_cons, List.cons.injEq, Prod.mk.injEq, true_and]
    exact ⟨by rw [arg_spec ha hg hc h1]; exact (cellsN_spec h2 hn.1).1, ih⟩

theorem placesL_spec : ∀ {fs : List Field} {l : List (Nat × Nat)}, placesL P fs = some l →
    ((fs.mapM fun f => do pure (f.offset, ← sizeOf f.type)) : Sem (List (Nat × Nat))).run P w = .ok l w
  | [], _, h => by cases h; simp
  | f :: r, l, h => by
    simp only [placesL] at h
    obtain ⟨n, h1, h⟩ := Option.bind_eq_some_iff.1 h
    obtain ⟨l', h2, rfl⟩ := Option.map_eq_some_iff.1 h
    have ih := placesL_spec h2
    simp only [bind_pure_comp] at ih
    simp [run_sizeOf' h1, ih]

theorem zeroL_spec {t : TypeId} {z : List LV} (h : zeroL P t = some z) : ∃ v, (∀ w, (zeroValue t).run P w = .ok v w) ∧ (∀ β, v.cells.toList = denL β z) ∧ (∀ u ∈ v.cells.toList, Value.one u = true) := by
  unfold zeroL at h
  cases hi : P.info? t with
  | none => rw [hi] at h; cases h
  | some i =>
    rw [hi] at h
    simp only at h
    cases hz : i.zero with
    | none => rw [hz] at h; cases h
    | some v =>
      rw [hz] at h
      simp only at h
      cases hb : v.cells.toList.all Value.one <;> rw [hb] at h
      · cases h
      · cases h
        exact ⟨v, fun w => by simp [zeroValue, run_typeInfo' hi, hz], fun β => by rw [denL_map, List.map_map]; simp [Function.comp_def, den_ofV], List.all_eq_true.1 hb⟩

theorem buildV_spec (ha : Agree β fr a) (hg : GdOk fr) (hc : Cok fr c) {t : TypeId} {parts : Array (Nat × Operand)} {v : LV} {ns : NeedL} (h : buildV P fr c t parts.toList = some (v, ns)) (hn : allP β ns) :
    (Instr.build t (parts.map fun (i, x) => (i, a.eval x))).run P w = .ok (den β v) w := by
  unfold buildV at h
  split at h
  · rename_i fs hu
    obtain ⟨z, hz, h⟩ := Option.bind_eq_some_iff.1 h
    obtain ⟨pl, hp, h⟩ := Option.bind_eq_some_iff.1 h
    obtain ⟨⟨ps, ms⟩, hps, h⟩ := Option.bind_eq_some_iff.1 h
    obtain ⟨cs, hf, he⟩ := Option.map_eq_some_iff.1 h
    simp only [Prod.mk.injEq] at he
    obtain ⟨rfl, rfl⟩ := he
    obtain ⟨zv, hz1, hz2, _⟩ := zeroL_spec hz
    have hpl := placesL_spec (w := w) hp
    have hfill := fillL_spec (β := β) (ca := zv.cells) (vs := (parts.map fun (i, x) => (i, a.eval x)).toList) hf (hz2 β) (by
      have := partsN_spec ha hg hc hps hn
      simpa using this)
    have hm : (fs.mapM fun f => do pure (f.offset, ← sizeOf f.type) : Sem (Array (Nat × Nat))).run P w = .ok pl.toArray w := by
      rw [Array.mapM_eq_mapM_toList]
      simp only [Sem.run_map, hpl, Result.andThen]
    have hpe : (fun i : Nat => pl.toArray[i]?) = (fun i : Nat => pl[i]?) := by funext i; simp
    simp only [Instr.build, Sem.run_bind, hz1, Result.andThen, run_underlying hu, hm, hpe]
    simp only [Array.toList_map] at hfill ⊢
    rw [hfill]
    simp [den]
  · cases h

theorem partV_spec {t : TypeId} {x v : LV} {f : Nat} (h : partV P t x f = some v) : (Instr.field t (den β x) f).run P w = .ok (den β v) w := by
  unfold partV at h
  split at h
  · rename_i fs cs hu
    split at h
    · rename_i fd hf
      split at h
      · rename_i hag
        obtain ⟨n, hz, rfl⟩ := Option.map_eq_some_iff.1 h
        simp only [Instr.field, Sem.run_bind, run_underlying hu, Result.andThen, hf, den, asAgg, Sem.run_pure, part, run_isAgg' hag, run_sizeOf' hz, if_true, denL_map]
        congr 2
        simp [List.map_take, List.map_drop, List.extract_eq_take_drop]
      · rename_i hag
        have : (denL β cs)[fd.offset]? = some (den β v) := by rw [denL_map]; simp [h]
        simp [Instr.field, run_underlying hu, hf, den, asAgg, part, run_isAgg' hag, this]
      · cases h
    · cases h
  · cases h

theorem nilCk_spec {x v : LV} (h : nilCk x = some v) : v = x ∧ ∀ ρ o y, o.op = .nilCheck y → ρ y = den β x → (execOp ρ o).run P w = .ok (.value (den β x)) w := by
  unfold nilCk at h
  split at h <;> cases h
  all_goals
    refine ⟨rfl, fun ρ o y ho hy => ?_⟩
    unfold execOp
    rw [ho]
    simp only [hy, den]
    rfl

theorem evalPure_spec (ha : Agree β fr a) (hg : GdOk fr) (hc : Cok fr c) {o : Oper} {v : LV} {ns : NeedL} (h : evalPure P fr c o = some (v, ns)) (hn : allP β ns) :
    (execOp a.eval o).run P w = .ok (.value (den β v)) w := by
  unfold evalPure at h
  have ex1 : ∀ {op}, o.op = op → execOp a.eval o = execOp a.eval { o with op } := fun e => by rw [← e]
  have one : ∀ {x : Option LV}, (x.map fun v => (v, ([] : NeedL))) = some (v, ns) → x = some v := fun hx => by
    obtain ⟨u, hu, he⟩ := Option.map_eq_some_iff.1 hx
    simp only [Prod.mk.injEq] at he
    obtain ⟨rfl, _⟩ := he
    exact hu
  split at h
  · rename_i x ho
    rw [ex1 ho]; simp [execOp, arg_spec ha hg hc (one h)]
  · rename_i x ho
    rw [ex1 ho]; simp [execOp, arg_spec ha hg hc (one h)]
  · rename_i x y z ho
    rw [ex1 ho]; exact evalPick_spec ha hg hc (one h)
  · rename_i op t x y yt ho
    obtain ⟨x', h1, h⟩ := Option.bind_eq_some_iff.1 h
    obtain ⟨y', h2, h3⟩ := Option.bind_eq_some_iff.1 h
    have e1 := arg_spec ha hg hc h1
    have e2 := arg_spec ha hg hc h2
    have hl : ∀ n, litI y = some n → ∃ k, y' = .int k n := by
      intro n hn'
      unfold litI at hn'
      split at hn' <;> cases hn'
      simp only [arg, opv, ofV, Option.some.injEq] at h2
      exact ⟨_, h2.symm⟩
    rw [ex1 ho]
    refine run_val (s := do eqGuard op t x y (a.eval x) (a.eval y); binOp op t (a.eval x) (a.eval y)) rfl ?_
    rw [e1, e2]
    exact run_binV hl h3 hn
  · rename_i op t x ho
    obtain ⟨x', h1, h⟩ := Option.bind_eq_some_iff.1 h
    rw [ex1 ho]
    refine run_val (s := Op.unary op (a.eval x)) rfl ?_
    rw [arg_spec ha hg hc h1]; exact unV_spec (one h)
  · rename_i s d x ho
    obtain ⟨x', h1, h⟩ := Option.bind_eq_some_iff.1 h
    rw [ex1 ho]
    refine run_val (s := convert s d (a.eval x)) rfl ?_
    rw [arg_spec ha hg hc h1]; exact convV_spec (one h)
  · rename_i x i ho
    obtain ⟨x', h1, h⟩ := Option.bind_eq_some_iff.1 h
    rw [ex1 ho]
    refine run_val (s := Instr.extract (a.eval x) i) rfl ?_
    rw [arg_spec ha hg hc h1]; exact extV_spec (one h)
  · rename_i s x f ho
    obtain ⟨x', h1, h⟩ := Option.bind_eq_some_iff.1 h
    rw [ex1 ho]
    refine run_val (s := Instr.fieldAt s (a.eval x) f) rfl ?_
    rw [arg_spec ha hg hc h1]; exact fieldV_spec (one h)
  · rename_i t x i ho
    obtain ⟨x', h1, h⟩ := Option.bind_eq_some_iff.1 h
    obtain ⟨i', h2, h3⟩ := Option.bind_eq_some_iff.1 h
    rw [ex1 ho]
    refine run_val (s := Instr.indexAt t (a.eval x) (a.eval i)) rfl ?_
    rw [arg_spec ha hg hc h1, arg_spec ha hg hc h2]; exact indexV_spec h3 hn
  · rename_i t x lo hi mx ho
    obtain ⟨x', h1, h⟩ := Option.bind_eq_some_iff.1 h
    obtain ⟨l', h2, h⟩ := Option.bind_eq_some_iff.1 h
    obtain ⟨h', h3, h⟩ := Option.bind_eq_some_iff.1 h
    obtain ⟨m', h4, h5⟩ := Option.bind_eq_some_iff.1 h
    rw [ex1 ho]
    refine run_val (s := Instr.sliceAt t (a.eval x) (lo.map a.eval) (hi.map a.eval) (mx.map a.eval)) rfl ?_
    rw [arg_spec ha hg hc h1, oarg_spec ha hg hc h2, oarg_spec ha hg hc h3, oarg_spec ha hg hc h4]
    exact sliceV_spec h5 hn
  · rename_i x ho
    obtain ⟨x', h1, h⟩ := Option.bind_eq_some_iff.1 h
    obtain ⟨rfl, hs⟩ := nilCk_spec (P := P) (w := w) (β := β) (one h)
    exact hs a.eval o x ho (arg_spec ha hg hc h1)
  · rename_i f fst cap ho
    cases hf : fst.isEmpty <;> rw [hf] at h
    · cases h
    · simp only [cond_true] at h
      obtain ⟨l, h1, he⟩ := Option.map_eq_some_iff.1 h
      simp only [Prod.mk.injEq] at he
      obtain ⟨rfl, rfl⟩ := he
      have e1 := args_spec ha hg hc h1
      have e0 : fst = #[] := by simpa using hf
      rw [ex1 ho]
      subst e0
      have e2 : cap.map a.eval = (denL β l).toArray := Array.toList_inj.1 (by rw [Array.toList_map, e1])
      simp [execOp, Instr.makeFunc, den, e2]
  · rename_i t parts ho
    rw [ex1 ho]
    exact run_val (s := Instr.build t (parts.map fun (i, x) => (i, a.eval x))) rfl (buildV_spec ha hg hc h hn)
  · rename_i t x f ho
    obtain ⟨x', h1, h⟩ := Option.bind_eq_some_iff.1 h
    rw [ex1 ho]
    refine run_val (s := Instr.field t (a.eval x) f) rfl ?_
    rw [arg_spec ha hg hc h1]; exact partV_spec (one h)
  · rename_i b as ts ho
    obtain ⟨l, h1, h⟩ := Option.bind_eq_some_iff.1 h
    have e1 := args_spec ha hg hc h1
    have e2 : as.map a.eval = (denL β l).toArray := Array.toList_inj.1 (by rw [Array.toList_map, e1])
    rw [ex1 ho]
    simp only [execOp, resolve, Sem.run_bind, Sem.run_pure, Result.andThen, invoke, e2]
    exact builtinV_spec (one h)
  · cases h

end
end Go.E
