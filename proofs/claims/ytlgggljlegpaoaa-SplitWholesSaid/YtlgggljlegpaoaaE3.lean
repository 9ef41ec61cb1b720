/-
  Logical values: what a slot or a cell holds, with the blocks that a walk knows by name as small numbers ('den' gives the value, by the list of the
  blocks' true numbers); frames as lists; the conditions that a step asks for.
-/
import Derived.Test.YtlgggljlegpaoaaE2
import Derived.WalkKit
namespace Go.E

inductive LV where
  | raw (v : Value)
  | cst (v : Value)
  | int (k : IntKind) (n : Int)
  | bool (b : Bool)
  | str (s : ByteArray)
  | ptr (id : Nat) (off : Nat)
  | sl (id off len cap : Nat)
  | mp (id : Nat)
  | agg (l : List LV)
  | tup (l : List LV)
  | fn (f : FuncId) (caps : List LV)
  | gd (t : Nat) (want : Bool) (c : Bool) (x : LV)

def bk (β : List Nat) (i : Nat) : Nat := β.getD i 0

mutual
def den (β : List Nat) : LV → Value
  | .raw v => v
  | .cst v => v
  | .int k n => .int k n
  | .bool b => .bool b
  | .str s => .string s
  | .ptr i o => .pointer (some ⟨bk β i, o, none⟩)
  | .sl i o n c => .slice (some ⟨bk β i, o, none⟩) n c
  | .mp i => .map (some (bk β i))
  | .agg l => .agg (denL β l).toArray
  | .tup l => .tuple (denL β l).toArray
  | .fn f l => .func (.func f) #[] (denL β l).toArray
  | .gd _ _ c x => if c then den β x else undef
def denL (β : List Nat) : List LV → List Value
  | [] => []
  | x :: r => den β x :: denL β r
end

mutual
/-- All blocks that it names are below n. -/
def LV.lt (n : Nat) : LV → Bool
  | .ptr i _ => Nat.blt i n
  | .sl i _ _ _ => Nat.blt i n
  | .mp i => Nat.blt i n
  | .agg l => ltL n l
  | .tup l => ltL n l
  | .fn _ l => ltL n l
  | .gd _ _ _ x => LV.lt n x
  | _ => true
def ltL (n : Nat) : List LV → Bool
  | [] => true
  | x :: r => LV.lt n x && ltL n r
end

theorem bk_append {β γ : List Nat} {i : Nat} (h : Nat.blt i β.length = true) : bk (β ++ γ) i = bk β i := by
  unfold bk
  have h' : i < β.length := by simpa [Nat.blt_eq] using h
  simp [List.getD, List.getElem?_append_left h']

mutual
theorem den_append {β γ : List Nat} : ∀ {x : LV}, LV.lt β.length x = true → den (β ++ γ) x = den β x
  | .raw _, _ => rfl
  | .cst _, _ => rfl
  | .int _ _, _ => rfl
  | .bool _, _ => rfl
  | .str _, _ => rfl
  | .ptr _ _, h => by simp only [den, bk_append (by simpa only [LV.lt] using h)]
  | .sl _ _ _ _, h => by simp only [den, bk_append (by simpa only [LV.lt] using h)]
  | .mp _, h => by simp only [den, bk_append (by simpa only [LV.lt] using h)]
  | .agg l, h => by simp only [den, denL_append (l := l) (by simpa only [LV.lt] using h)]
  | .tup l, h => by simp only [den, denL_append (l := l) (by simpa only [LV.lt] using h)]
  | .fn _ l, h => by simp only [den, denL_append (l := l) (by simpa only [LV.lt] using h)]
  | .gd _ _ _ x, h => by simp only [den, den_append (x := x) (by simpa only [LV.lt] using h)]
theorem denL_append {β γ : List Nat} : ∀ {l : List LV}, ltL β.length l = true → denL (β ++ γ) l = denL β l
  | [], _ => rfl
  | x :: r, h => by
    simp only [ltL, Bool.and_eq_true] at h
    simp only [denL, den_append (x := x) h.1, denL_append (l := r) h.2]
end

theorem denL_map (β : List Nat) (l : List LV) : denL β l = l.map (den β) := by induction l <;> simp_all [denL]

/-- The cells of a value. -/
def LV.cells : LV → List LV
  | .agg l => l
  | x => [x]

def Value.one : Value → Bool
  | .agg _ | .tuple _ => false
  | _ => true

abbrev NeedL := List (List Nat → Prop)
def allP (β : List Nat) : NeedL → Prop
  | [] => True
  | p :: r => p β ∧ allP β r
theorem allP_append {β : List Nat} {x y : NeedL} : allP β (x ++ y) ↔ allP β x ∧ allP β y := by
  induction x <;> simp_all [allP, and_assoc]

/-- Is it one cell's value, each cell of an aggregate too? -/
def oneN : List LV → Option NeedL
  | [] => some []
  | x :: r =>
    match x with
    | .raw v => (oneN r).map fun ns => (fun _ => Value.one v = true) :: ns
    | .cst v => bif Value.one v then oneN r else none
    | .agg _ => none
    | .tup _ => none
    | .gd _ _ _ _ => none
    | _ => oneN r

theorem oneN_spec {β : List Nat} : ∀ {l : List LV} {ns : NeedL}, oneN l = some ns → allP β ns → ∀ v ∈ denL β l, Value.one v = true
  | [], _, _, _ => by simp [denL]
  | x :: r, ns, h, hn => by
    intro v hv
    simp only [denL, List.mem_cons] at hv
    have tail : ∀ {ns : NeedL}, oneN r = some ns → allP β ns → ∀ v ∈ denL β r, Value.one v = true := fun h hn => oneN_spec h hn
    cases x <;> simp only [oneN] at h
    case raw u =>
      obtain ⟨ms, hm, rfl⟩ := Option.map_eq_some_iff.1 h
      rcases hv with rfl | hv
      · exact hn.1
      · exact tail hm hn.2 v hv
    case cst u =>
      cases hu : Value.one u <;> rw [hu] at h <;> simp at h
      rcases hv with rfl | hv
      · exact hu
      · exact tail h hn v hv
    case agg => cases h
    case tup => cases h
    case gd => cases h
    all_goals
      rcases hv with rfl | hv
      · rfl
      · exact tail h hn v hv

/-! ### Frames -/
abbrev Fr := List (Nat × LV)
def Fr.get : Fr → Nat → Option LV
  | [], _ => none
  | (k, v) :: r, t => bif Nat.beq k t then some v else Fr.get r t
/-- Without a key. -/
def Fr.delk : Fr → Nat → Fr
  | [], _ => []
  | (k, v) :: r, t => bif Nat.beq k t then Fr.delk r t else (k, v) :: Fr.delk r t
def LV.isGd : LV → Bool
  | .gd _ _ _ _ => true
  | _ => false
def LV.tag (t : Nat) : LV → Bool
  | .gd u _ _ _ => Nat.beq u t
  | _ => false
/-- Without the values that stand under a condition. -/
def Fr.plain : Fr → Fr
  | [] => []
  | (k, v) :: r => bif v.isGd then Fr.delk (Fr.plain r) k else (k, v) :: Fr.plain r
def Fr.anyTag (t : Nat) : Fr → Bool
  | [] => false
  | (_, v) :: r => v.tag t || Fr.anyTag t r
def Fr.del (fr : Fr) (t : Nat) : Fr := Fr.delk (bif fr.anyTag t then fr.plain else fr) t
def Fr.put (fr : Fr) (t : Nat) (v : LV) : Fr := (t, v) :: fr.del t
def Fr.lt (n : Nat) : Fr → Bool
  | [] => true
  | (_, v) :: r => v.lt n && Fr.lt n r

theorem Fr.get_delk {fr : Fr} {t u : Nat} {v : LV} (h : (fr.delk t).get u = some v) : u ≠ t ∧ fr.get u = some v := by
  induction fr with
  | nil => simp [Fr.delk, Fr.get] at h
  | cons x r ih =>
    obtain ⟨k, y⟩ := x
    simp only [Fr.delk] at h
    cases hk : Nat.beq k t <;> rw [hk] at h
    · simp only [cond_false, Fr.get] at h
      cases hu : Nat.beq k u <;> rw [hu] at h
      · simp only [cond_false] at h
        simp only [Fr.get, hu, cond_false]
        exact ih h
      · simp only [cond_true] at h
        simp only [Fr.get, hu, cond_true]
        have := Nat.eq_of_beq_eq_true hu
        subst this
        exact ⟨Nat.ne_of_beq_eq_false hk, h⟩
    · simp only [cond_true] at h
      obtain ⟨h1, h2⟩ := ih h
      refine ⟨h1, ?_⟩
      simp only [Fr.get]
      have := Nat.eq_of_beq_eq_true hk
      subst this
      cases hu : Nat.beq k u
      · exact h2
      · exact absurd (Nat.eq_of_beq_eq_true hu).symm h1
theorem Fr.delk_get {fr : Fr} {t u : Nat} (h : u ≠ t) : (fr.delk t).get u = fr.get u := by
  induction fr with
  | nil => rfl
  | cons x r ih =>
    obtain ⟨k, y⟩ := x
    simp only [Fr.delk]
    cases hk : Nat.beq k t
    · simp only [cond_false, Fr.get, ih]
    · simp only [cond_true, Fr.get, ih]
      have := Nat.eq_of_beq_eq_true hk
      subst this
      cases hu : Nat.beq k u
      · rfl
      · exact absurd (Nat.eq_of_beq_eq_true hu).symm h
theorem Fr.get_plain {fr : Fr} {u : Nat} {v : LV} (h : fr.plain.get u = some v) : v.isGd = false ∧ fr.get u = some v := by
  induction fr generalizing u v with
  | nil => simp [Fr.plain, Fr.get] at h
  | cons x r ih =>
    obtain ⟨k, y⟩ := x
    simp only [Fr.plain] at h
    cases hy : y.isGd <;> rw [hy] at h
    · simp only [cond_false, Fr.get] at h
      simp only [Fr.get]
      cases hu : Nat.beq k u <;> rw [hu] at h
      · exact ih h
      · simp only [cond_true, Option.some.injEq] at h; subst h; exact ⟨hy, rfl⟩
    · simp only [cond_true] at h
      obtain ⟨h1, h2⟩ := Fr.get_delk h
      obtain ⟨h3, h4⟩ := ih h2
      refine ⟨h3, ?_⟩
      simp only [Fr.get]
      cases hu : Nat.beq k u
      · exact h4
      · exact absurd (Nat.eq_of_beq_eq_true hu).symm h1
theorem Fr.get_tag {fr : Fr} {u t : Nat} {v : LV} (h : fr.get u = some v) (hv : v.tag t = true) : fr.anyTag t = true := by
  induction fr with
  | nil => simp [Fr.get] at h
  | cons x r ih =>
    obtain ⟨k, y⟩ := x
    simp only [Fr.get] at h
    simp only [Fr.anyTag, Bool.or_eq_true]
    cases hu : Nat.beq k u <;> rw [hu] at h
    · exact .inr (ih h)
    · simp only [cond_true, Option.some.injEq] at h; subst h; exact .inl hv
theorem Fr.get_del {fr : Fr} {t u : Nat} {v : LV} (h : (fr.del t).get u = some v) : u ≠ t ∧ fr.get u = some v := by
  unfold Fr.del at h
  obtain ⟨h1, h2⟩ := Fr.get_delk h
  refine ⟨h1, ?_⟩
  cases ht : fr.anyTag t <;> rw [ht] at h2
  · exact h2
  · exact (Fr.get_plain h2).2

def Agree (β : List Nat) (fr : Fr) (a : Act) : Prop := ∀ t v, fr.get t = some v → a.tmps[t]? = some (den β v)

theorem Agree.eval {β : List Nat} {fr : Fr} {a : Act} (h : Agree β fr a) {t : Nat} {v : LV} (hg : fr.get t = some v) : a.eval (.tmp t) = den β v := by
  simp [Act.eval, h t v hg]

theorem Agree.del {β : List Nat} {fr : Fr} {a : Act} (h : Agree β fr a) (t : Nat) : Agree β (fr.del t) a := fun u v hg => h u v (Fr.get_del hg).2

theorem Agree.put {β : List Nat} {fr : Fr} {a : Act} (h : Agree β fr a) {t : Nat} (ht : t < a.tmps.size) {x : LV} {v : Value} (hv : v = den β x) : Agree β (fr.put t x) (a.put (some t) v) := by
  intro u y hg
  simp only [Fr.put, Fr.get] at hg
  simp only [Act.put]
  cases hu : Nat.beq t u <;> rw [hu] at hg
  · simp only [cond_false] at hg
    have hne := Nat.ne_of_beq_eq_false hu
    rw [Array.getElem?_setIfInBounds_ne hne]
    exact h u y (Fr.get_del hg).2
  · simp only [cond_true, Option.some.injEq] at hg
    have := Nat.eq_of_beq_eq_true hu
    subst this; subst hg; subst hv
    simp [ht]

/-- What a slot that is put is told of no more. -/
theorem Agree.putDel {β : List Nat} {fr : Fr} {a : Act} (h : Agree β fr a) (t : Nat) (v : Value) : Agree β (fr.del t) (a.put (some t) v) := by
  intro u y hg
  obtain ⟨h1, h2⟩ := Fr.get_del hg
  simp only [Act.put]
  rw [Array.getElem?_setIfInBounds_ne (Ne.symm h1)]
  exact h u y h2

theorem Act.put_size (a : Act) (d : Option Tmp) (v : Value) : (a.put d v).tmps.size = a.tmps.size := by cases d <;> simp [Act.put]
theorem Act.put_defers' (a : Act) (d : Option Tmp) (v : Value) : (a.put d v).defers = a.defers := by cases d <;> rfl

theorem Fr.get_lt {n : Nat} {t : Nat} {v : LV} : ∀ {fr : Fr}, fr.lt n = true → fr.get t = some v → v.lt n = true
  | [], _, hg => by simp [Fr.get] at hg
  | (k, y) :: r, h, hg => by
    simp only [Fr.lt, Bool.and_eq_true] at h
    simp only [Fr.get] at hg
    cases hu : Nat.beq k t <;> rw [hu] at hg
    · exact Fr.get_lt (fr := r) h.2 hg
    · simp only [cond_true, Option.some.injEq] at hg; exact hg ▸ h.1

theorem Agree.append {β γ : List Nat} {fr : Fr} {a : Act} (h : Agree β fr a) (hl : fr.lt β.length = true) : Agree (β ++ γ) fr a := fun t v hg => by
  rw [den_append (Fr.get_lt hl hg)]; exact h t v hg

/-! ### Operands -/
def ofV : Value → LV
  | .int k n => .int k n
  | .string s => .str s
  | v => .cst v
theorem den_ofV (β : List Nat) (v : Value) : den β (ofV v) = v := by cases v <;> rfl
theorem lt_ofV (n : Nat) (v : Value) : (ofV v).lt n = true := by cases v <;> rfl

/-- A bool, symbolic or literal. -/
def bl : LV → Option Bool
  | .bool b => some b
  | .cst (.bool b) => some b
  | _ => none
theorem bl_spec {x : LV} {b : Bool} (h : bl x = some b) (β : List Nat) : den β x = .bool b := by
  unfold bl at h; split at h <;> cases h <;> rfl

def opv (fr : Fr) : Operand → Option LV
  | .tmp t => fr.get t
  | .const v => some (ofV v)
  | .global _ => none
  | .func f => some (.fn f [])

theorem opv_spec {β : List Nat} {fr : Fr} {a : Act} (h : Agree β fr a) {x : Operand} {v : LV} (hv : opv fr x = some v) : a.eval x = den β v := by
  cases x <;> simp only [opv] at hv
  case tmp t => exact h.eval hv
  case const u => cases hv; rw [den_ofV]; rfl
  case global g => cases hv
  case func f => cases hv; rfl

/-- A condition: the slot that bears it, what is wanted of it, its truth (none: always). -/
abbrev Ctx := Option (Nat × Bool × Bool)
def eqb (a b : Bool) : Bool := bif a then b else !b
theorem eqb_spec {a b : Bool} (h : eqb a b = true) : a = b := by cases a <;> cases b <;> simp_all [eqb]

/-- Does a slot's value yield what is wanted? -/
def condOf (v : LV) (want : Bool) : Option Bool :=
  match v with
  | .bool b => some (bif want then b else !b)
  | .cst (.bool b) => some (bif want then b else !b)
  | .gd _ _ c (.bool b) => some (c && (bif want then b else !b))
  | .gd _ _ c (.cst (.bool b)) => some (c && (bif want then b else !b))
  | _ => none

def GdOk (fr : Fr) : Prop := ∀ u t w c x, fr.get u = some (.gd t w c x) → ∃ v, fr.get t = some v ∧ condOf v w = some c
def Cok (fr : Fr) (c : Ctx) : Prop := ∀ t w b, c = some (t, w, b) → b = true ∧ ∃ v, fr.get t = some v ∧ condOf v w = some b

theorem Cok.none (fr : Fr) : Cok fr none := fun _ _ _ h => by cases h

theorem GdOk.plain (fr : Fr) : GdOk fr.plain := fun u t w c x h => by have := (Fr.get_plain h).1; cases this
theorem GdOk.delk {fr : Fr} (h : GdOk fr) {t : Nat} (ht : fr.anyTag t = false) : GdOk (fr.delk t) := fun u t' w c x hg => by
  obtain ⟨_, h2⟩ := Fr.get_delk hg
  obtain ⟨v, hv, hc⟩ := h u t' w c x h2
  have hne : t' ≠ t := by
    rintro rfl
    have := Fr.get_tag (t := t') h2 (by simp [LV.tag])
    rw [ht] at this; cases this
  exact ⟨v, by rw [Fr.delk_get hne]; exact hv, hc⟩
theorem GdOk.noGd {fr : Fr} (h : ∀ u v, fr.get u = some v → v.isGd = false) : GdOk fr := fun u t w c x hg => by have := h u _ hg; cases this
theorem GdOk.del {fr : Fr} (h : GdOk fr) (t : Nat) : GdOk (fr.del t) := by
  unfold Fr.del
  cases ht : fr.anyTag t
  · exact h.delk ht
  · exact GdOk.noGd fun u v hg => (Fr.get_plain (Fr.get_delk hg).2).1
theorem GdOk.put {fr : Fr} (h : GdOk fr) {t : Nat} {v : LV} (hv : v.isGd = false) : GdOk (fr.put t v) := by
  intro u t' w c x hg
  simp only [Fr.put, Fr.get] at hg ⊢
  cases hu : Nat.beq t u <;> rw [hu] at hg
  · simp only [cond_false] at hg
    obtain ⟨y, hy, hc⟩ := h.del t u t' w c x hg
    have hne := (Fr.get_del hy).1
    refine ⟨y, ?_, hc⟩
    have : Nat.beq t t' = false := by
      cases hb : Nat.beq t t'
      · rfl
      · exact absurd (Nat.eq_of_beq_eq_true hb).symm hne
    rw [this]; exact hy
  · simp only [cond_true, Option.some.injEq] at hg; subst hg; cases hv
/-- A value under a condition. -/
theorem GdOk.putGd {fr : Fr} (h : GdOk fr) {t g : Nat} {w c : Bool} {x y : LV} (ht : fr.anyTag t = false) (hne : g ≠ t) (hy : fr.get g = some y) (hc : condOf y w = some c) : GdOk (fr.put t (.gd g w c x)) := by
  intro u t' w' c' x' hg
  simp only [Fr.put, Fr.get] at hg ⊢
  have look : ∀ s z, s ≠ t → fr.get s = some z → (bif Nat.beq t s then some (.gd g w c x) else (fr.del t).get s) = some z := by
    intro s z hs hz
    have : Nat.beq t s = false := by
      cases hb : Nat.beq t s
      · rfl
      · exact absurd (Nat.eq_of_beq_eq_true hb).symm hs
    rw [this]
    simp only [cond_false, Fr.del, ht]
    rw [Fr.delk_get hs]; exact hz
  cases hu : Nat.beq t u <;> rw [hu] at hg
  · simp only [cond_false] at hg
    obtain ⟨_, h2⟩ := Fr.get_del hg
    obtain ⟨z, hz, hc'⟩ := h u t' w' c' x' h2
    have hne' : t' ≠ t := by
      rintro rfl
      have := Fr.get_tag (t := t') h2 (by simp [LV.tag])
      rw [ht] at this; cases this
    exact ⟨z, look t' z hne' hz, hc'⟩
  · simp only [cond_true, Option.some.injEq, LV.gd.injEq] at hg
    obtain ⟨rfl, rfl, rfl, rfl⟩ := hg
    exact ⟨y, look g y hne hy, hc⟩

/-- An operand under a condition. -/
def arg (fr : Fr) (c : Ctx) (x : Operand) : Option LV :=
  match opv fr x with
  | some (.gd t w _ v) => (match c with
    | some (t', w', _) => bif Nat.beq t t' && eqb w w' then some v else none
    | none => none)
  | r => r

theorem opv_get {fr : Fr} {x : Operand} {t : Nat} {w c : Bool} {v : LV} (h : opv fr x = some (.gd t w c v)) : ∃ u, x = .tmp u ∧ fr.get u = some (.gd t w c v) := by
  cases x <;> simp only [opv] at h
  case tmp u => exact ⟨u, rfl, h⟩
  case const u => cases u <;> simp [ofV] at h
  case global g => cases h
  case func f => cases h

theorem arg_spec {β : List Nat} {fr : Fr} {a : Act} (h : Agree β fr a) (hg : GdOk fr) {c : Ctx} (hc : Cok fr c) {x : Operand} {v : LV} (hv : arg fr c x = some v) :
    a.eval x = den β v := by
  unfold arg at hv
  split at hv
  · rename_i t w c' u hu
    have e := opv_spec h hu
    split at hv
    · rename_i t' w' b
      cases hb : Nat.beq t t' && eqb w w' <;> rw [hb] at hv
      · cases hv
      · simp only [cond_true, Option.some.injEq] at hv
        subst hv
        simp only [Bool.and_eq_true] at hb
        obtain rfl := Nat.eq_of_beq_eq_true hb.1
        obtain rfl := eqb_spec hb.2
        obtain ⟨s, rfl, hs⟩ := opv_get hu
        obtain ⟨y, hy, hy'⟩ := hg _ _ _ _ _ hs
        obtain ⟨hb1, z, hz, hz'⟩ := hc _ _ _ rfl
        rw [hy] at hz; cases hz
        rw [hy'] at hz'; cases hz'
        rw [e]; simp [den, hb1]
    · cases hv
  · exact opv_spec h hv

end Go.E
