/-
  A small separation logic over the model's heap: a heap predicate speaks of a part of the blocks; 'star' parts it in two; 'Sat' says that a world's
  heap holds a predicate beside all blocks of the world in which a call began, which are as they were. No program in sight.
-/
import Derived.Below
import Derived.Laws.World
namespace Go.E
open Go.RowKit

abbrev PH := Nat → Option Obj
structure HP where
  on : PH → Prop

theorem HP.ext' {p q : HP} (h : ∀ x, p.on x ↔ q.on x) : p = q := by
  cases p; cases q; congr; funext x; exact propext (h x)

def emp : HP := ⟨fun h => ∀ b, h b = none⟩
/-- Block b is o. -/
def pt (b : Nat) (o : Obj) : HP := ⟨fun h => ∀ k, h k = if k = b then some o else none⟩
def star (p q : HP) : HP := ⟨fun h => ∃ h1 h2 : PH, (∀ k, h1 k = none ∨ h2 k = none) ∧ (∀ k, h k = (h1 k).or (h2 k)) ∧ p.on h1 ∧ q.on h2⟩
instance : Mul HP := ⟨star⟩
instance : One HP := ⟨emp⟩
def pur (φ : Prop) : HP := ⟨fun h => φ ∧ ∀ b, h b = none⟩
def exi {α : Type} (p : α → HP) : HP := ⟨fun h => ∃ x, (p x).on h⟩

theorem mul_def (p q : HP) : p * q = star p q := rfl

theorem or_comm' {a b : Option Obj} (h : a = none ∨ b = none) : a.or b = b.or a := by
  rcases h with rfl | rfl <;> simp

theorem star_comm (p q : HP) : p * q = q * p := HP.ext' fun h => by
  constructor <;> rintro ⟨h1, h2, hd, hh, hp, hq⟩ <;>
    exact ⟨h2, h1, fun k => (hd k).symm, fun k => by rw [hh k, or_comm' (hd k)], hq, hp⟩

theorem star_assoc (p q r : HP) : p * q * r = p * (q * r) := HP.ext' fun h => by
  constructor
  · rintro ⟨h12, h3, hd, hh, ⟨h1, h2, hd', hh', hp, hq⟩, hr⟩
    refine ⟨h1, fun k => (h2 k).or (h3 k), fun k => ?_, fun k => ?_, hp, h2, h3, fun k => ?_, fun k => rfl, hq, hr⟩
    · have := hd k; have := hd' k; rw [hh' k] at *
      cases e1 : h1 k <;> simp_all
    · rw [hh k, hh' k, Option.or_assoc]
    · have := hd k; rw [hh' k] at this
      cases e2 : h2 k
      · exact .inl rfl
      · right; cases e1 : h1 k <;> simp_all
  · rintro ⟨h1, h23, hd, hh, hp, h2, h3, hd', hh', hq, hr⟩
    refine ⟨fun k => (h1 k).or (h2 k), h3, fun k => ?_, fun k => ?_, ⟨h1, h2, fun k => ?_, fun k => rfl, hp, hq⟩, hr⟩
    · have := hd k; have := hd' k; rw [hh' k] at *
      cases e1 : h1 k <;> simp_all
    · rw [hh k, hh' k, Option.or_assoc]
    · have := hd k; rw [hh' k] at this
      cases e1 : h1 k
      · exact .inl rfl
      · right; cases e2 : h2 k <;> simp_all

instance : Std.Commutative (α := HP) (· * ·) := ⟨star_comm⟩
instance : Std.Associative (α := HP) (· * ·) := ⟨star_assoc⟩

theorem one_mul (p : HP) : 1 * p = p := HP.ext' fun h => by
  constructor
  · rintro ⟨h1, h2, _, hh, he, hp⟩
    have : h = h2 := funext fun k => by rw [hh k, he k]; simp
    exact this ▸ hp
  · intro hp
    exact ⟨fun _ => none, h, fun _ => .inl rfl, fun k => by simp, fun _ => rfl, hp⟩
theorem mul_one (p : HP) : p * 1 = p := by rw [star_comm, one_mul]

/-- Left commutativity, for simp. -/
theorem star_left (p q r : HP) : p * (q * r) = q * (p * r) := by rw [← star_assoc, ← star_assoc, star_comm p q]

/-- p entails q. -/
def Ent (p q : HP) : Prop := ∀ h, p.on h → q.on h
theorem Ent.refl (p : HP) : Ent p p := fun _ h => h
theorem Ent.trans {p q r : HP} (h : Ent p q) (k : Ent q r) : Ent p r := fun x hx => k x (h x hx)
theorem Ent.of_eq {p q : HP} (h : p = q) : Ent p q := h ▸ Ent.refl p
theorem Ent.mul {p q p' q' : HP} (h : Ent p p') (k : Ent q q') : Ent (p * q) (p' * q') := fun _ ⟨h1, h2, hd, hh, hp, hq⟩ => ⟨h1, h2, hd, hh, h _ hp, k _ hq⟩
theorem Ent.right {p q q' : HP} (k : Ent q q') : Ent (p * q) (p * q') := (Ent.refl p).mul k
theorem Ent.left {p p' q : HP} (k : Ent p p') : Ent (p * q) (p' * q) := k.mul (Ent.refl q)

theorem pur_mul {φ : Prop} {p : HP} {h : PH} : (pur φ * p).on h ↔ φ ∧ p.on h := by
  constructor
  · rintro ⟨h1, h2, _, hh, ⟨hφ, he⟩, hp⟩
    have : h = h2 := funext fun k => by rw [hh k, he k]; simp
    exact ⟨hφ, this ▸ hp⟩
  · rintro ⟨hφ, hp⟩
    exact ⟨fun _ => none, h, fun _ => .inl rfl, fun k => by simp, ⟨hφ, fun _ => rfl⟩, hp⟩
theorem exi_mul {α : Type} {p : α → HP} {q : HP} {h : PH} : (exi p * q).on h ↔ ∃ x, (p x * q).on h := by
  constructor
  · rintro ⟨h1, h2, hd, hh, ⟨x, hp⟩, hq⟩; exact ⟨x, h1, h2, hd, hh, hp, hq⟩
  · rintro ⟨x, h1, h2, hd, hh, hp, hq⟩; exact ⟨h1, h2, hd, hh, ⟨x, hp⟩, hq⟩
theorem pur_true : pur True = 1 := HP.ext' fun _ => ⟨fun h => h.2, fun h => ⟨trivial, h⟩⟩

/-- The blocks of w hold p (and perhaps more). -/
def Holds (p : HP) (w : World) : Prop := ∃ h : PH, p.on h ∧ ∀ k o, h k = some o → w.heap[k]? = some o

theorem Holds.ent {p q : HP} {w : World} (h : Holds p w) (k : Ent p q) : Holds q w := let ⟨x, hp, hx⟩ := h; ⟨x, k x hp, hx⟩
theorem Holds.right {p q : HP} {w : World} (h : Holds (p * q) w) : Holds q w := by
  obtain ⟨x, ⟨h1, h2, hd, hh, hp, hq⟩, hx⟩ := h
  refine ⟨h2, hq, fun k o hk => hx k o ?_⟩
  rw [hh k]
  rcases hd k with e | e
  · rw [e, hk]; rfl
  · rw [e] at hk; cases hk
theorem Holds.left {p q : HP} {w : World} (h : Holds (p * q) w) : Holds p w := Holds.right (p := q) (star_comm p q ▸ h)

theorem Holds.heap {p : HP} {w w' : World} (h : Holds p w) (e : w'.heap = w.heap) : Holds p w' := let ⟨x, hp, hx⟩ := h; ⟨x, hp, fun k o hk => e ▸ hx k o hk⟩

theorem Holds.get {b : Nat} {o : Obj} {F : HP} {w : World} (h : Holds (pt b o * F) w) : w.heap[b]? = some o := by
  obtain ⟨x, ⟨h1, h2, hd, hh, hp, hq⟩, hx⟩ := h
  refine hx b o ?_
  rw [hh b, hp b, if_pos rfl]; rfl

/-- The block is written anew. -/
theorem Holds.set {b : Nat} {o o' : Obj} {F : HP} {w w' : World} (h : Holds (pt b o * F) w) (hb : w'.heap[b]? = some o') (hk : ∀ k, k ≠ b → w'.heap[k]? = w.heap[k]?) :
    Holds (pt b o' * F) w' := by
  obtain ⟨x, ⟨h1, h2, hd, hh, hp, hq⟩, hx⟩ := h
  have h2b : h2 b = none := by
    rcases hd b with e | e
    · rw [hp b, if_pos rfl] at e; cases e
    · exact e
  refine ⟨fun k => if k = b then some o' else h2 k, ⟨fun k => if k = b then some o' else none, h2, fun k => ?_, fun k => ?_, fun k => rfl, hq⟩, fun k u hu => ?_⟩
  · by_cases e : k = b
    · subst e; exact .inr h2b
    · simp [e]
  · by_cases e : k = b
    · simp [e]
    · simp [e]
  · by_cases e : k = b
    · subst e; simp at hu; subst hu; exact hb
    · simp [e] at hu
      rw [hk k e]
      refine hx k u ?_
      rw [hh k, hp k, if_neg e, hu]; rfl

/-- A new block. -/
theorem Holds.new {o : Obj} {F : HP} {w w' : World} (h : Holds F w) (hb : w'.heap[w.heap.size]? = some o) (hk : ∀ k, k < w.heap.size → w'.heap[k]? = w.heap[k]?) :
    Holds (pt w.heap.size o * F) w' := by
  obtain ⟨x, hp, hx⟩ := h
  have hlt : ∀ k u, x k = some u → k < w.heap.size := fun k u hu => (Array.getElem?_eq_some_iff.1 (hx k u hu)).1
  refine ⟨fun k => if k = w.heap.size then some o else x k, ⟨fun k => if k = w.heap.size then some o else none, x, fun k => ?_, fun k => ?_, fun k => rfl, hp⟩, fun k u hu => ?_⟩
  · by_cases e : k = w.heap.size
    · right
      cases hxk : x k with
      | none => rfl
      | some u => have := hlt k u hxk; omega
    · simp [e]
  · by_cases e : k = w.heap.size <;> simp [e]
  · by_cases e : k = w.heap.size
    · subst e; simp at hu; subst hu; exact hb
    · simp [e] at hu
      rw [hk k (hlt k u hu)]
      exact hx k u hu

theorem Holds.alloc {o : Obj} {F : HP} {w : World} (h : Holds F w) : Holds (pt w.heap.size o * F) (w.alloc o) :=
  h.new (heap_alloc_new w o) fun k hk => Below.heap_alloc _ _ _ hk

theorem Holds.ne {a b : Nat} {o o' : Obj} {F : HP} {w : World} (h : Holds (pt a o * (pt b o' * F)) w) : a ≠ b := by
  obtain ⟨x, ⟨h1, h2, hd, hh, hp, h3, h4, hd', hh', hp', hq⟩, hx⟩ := h
  rintro rfl
  rcases hd a with e | e
  · rw [hp a, if_pos rfl] at e; cases e
  · rw [hh' a, hp' a, if_pos rfl] at e; cases e

/-- The blocks of w₀, as they were. -/
def base (w0 : World) : HP := ⟨fun h => ∀ k, h k = w0.heap[k]?⟩

theorem Holds.base_get {w0 w : World} {F : HP} (h : Holds (base w0 * F) w) {k : Nat} (hk : k < w0.heap.size) : w.heap[k]? = w0.heap[k]? := by
  obtain ⟨x, ⟨h1, h2, hd, hh, hp, hq⟩, hx⟩ := h
  have : w0.heap[k]? = some (w0.heap[k]) := Array.getElem?_eq_some_iff.2 ⟨hk, rfl⟩
  rw [this]
  refine hx k _ ?_
  rw [hh k, hp k, this]; rfl

theorem Holds.base_refl (w0 : World) : Holds (base w0 * 1) w0 := by
  rw [mul_one]
  exact ⟨fun k => w0.heap[k]?, fun k => rfl, fun k o h => h⟩

/-- A block that a predicate speaks of beside the base is none of the base's. -/
theorem Holds.base_ge {w0 w : World} {b : Nat} {o : Obj} {F : HP} (h : Holds (base w0 * (pt b o * F)) w) : w0.heap.size ≤ b := by
  obtain ⟨x, ⟨h1, h2, hd, hh, hp, h3, h4, hd', hh', hp', hq⟩, hx⟩ := h
  rcases Nat.lt_or_ge b w0.heap.size with hlt | hge
  · exfalso
    rcases hd b with e | e
    · rw [hp b] at e; simp at e; omega
    · rw [hh' b, hp' b, if_pos rfl] at e; cases e
  · exact hge

/-- Beside the blocks of w₀, which are as they were, w holds p; the streams are as they were. -/
structure Sat (w0 : World) (p : HP) (w : World) : Prop where
  os : w.os = w0.os
  tape : w.tape = w0.tape
  output : w.output = w0.output
  size : w0.heap.size ≤ w.heap.size
  holds : Holds (base w0 * p) w

theorem Sat.refl (w0 : World) : Sat w0 1 w0 := ⟨rfl, rfl, rfl, Nat.le_refl _, Holds.base_refl w0⟩
theorem Sat.ent {w0 w : World} {p q : HP} (h : Sat w0 p w) (k : Ent p q) : Sat w0 q w := ⟨h.os, h.tape, h.output, h.size, h.holds.ent (Ent.right k)⟩
theorem Sat.eq {w0 w : World} {p q : HP} (h : Sat w0 p w) (k : p = q) : Sat w0 q w := k ▸ h
theorem Sat.right {w0 w : World} {p q : HP} (h : Sat w0 (p * q) w) : Sat w0 q w :=
  ⟨h.os, h.tape, h.output, h.size, Holds.right (p := p) (star_left (base w0) p q ▸ h.holds)⟩
theorem Sat.left {w0 w : World} {p q : HP} (h : Sat w0 (p * q) w) : Sat w0 p w := (h.eq (star_comm p q)).right
theorem Sat.below {w0 w : World} {p : HP} (h : Sat w0 p w) : Below w0.heap.size w0 w := ⟨h.os, h.tape, h.output, h.size, fun _ hk => h.holds.base_get hk⟩
theorem Sat.get {w0 w : World} {b : Nat} {o : Obj} {F : HP} (h : Sat w0 (pt b o * F) w) : w.heap[b]? = some o := Holds.get (F := base w0 * F) (star_left (base w0) _ F ▸ h.holds)
theorem Sat.ge {w0 w : World} {b : Nat} {o : Obj} {F : HP} (h : Sat w0 (pt b o * F) w) : w0.heap.size ≤ b := h.holds.base_ge
theorem Sat.ne {w0 w : World} {a b : Nat} {o o' : Obj} {F : HP} (h : Sat w0 (pt a o * (pt b o' * F)) w) : a ≠ b :=
  Holds.ne (F := base w0 * F) (by have := h.holds; rw [star_left (base w0), star_left (base w0)] at this; exact this)
theorem Sat.same {w0 w w' : World} {p : HP} (h : Sat w0 p w) (e : w'.heap = w.heap) (h1 : w'.os = w.os) (h2 : w'.tape = w.tape) (h3 : w'.output = w.output) : Sat w0 p w' :=
  ⟨h1.trans h.os, h2.trans h.tape, h3.trans h.output, by rw [e]; exact h.size, h.holds.heap e⟩
theorem Sat.drew {w0 w : World} {p : HP} (h : Sat w0 p w) : Sat w0 p w.drew := h.same rfl rfl rfl rfl
theorem Sat.pure {w0 w : World} {φ : Prop} {p : HP} (h : Sat w0 (pur φ * p) w) : φ ∧ Sat w0 p w := by
  refine ⟨?_, h.right⟩
  obtain ⟨x, hx, _⟩ := Holds.right (p := base w0) h.holds
  exact (pur_mul.1 hx).1
theorem Sat.exi {w0 w : World} {α : Type} {p : α → HP} {F : HP} (h : Sat w0 (exi p * F) w) : ∃ x, Sat w0 (p x * F) w := by
  obtain ⟨y, hy, hx⟩ := h.holds
  rw [star_left (base w0)] at hy
  obtain ⟨x, hx'⟩ := exi_mul.1 hy
  rw [star_left] at hx'
  exact ⟨x, h.os, h.tape, h.output, h.size, y, hx', hx⟩
theorem Sat.toPure {w0 w : World} {φ : Prop} {p : HP} (h : Sat w0 p w) (hφ : φ) : Sat w0 (pur φ * p) w := h.ent fun _ hp => pur_mul.2 ⟨hφ, hp⟩
theorem Sat.toExi {w0 w : World} {α : Type} {p : α → HP} {F : HP} (x : α) (h : Sat w0 (p x * F) w) : Sat w0 (Go.E.exi p * F) w := h.ent fun _ hp => exi_mul.2 ⟨x, hp⟩

/-- A turn of one block. -/
theorem Sat.set {w0 w w' : World} {b : Nat} {o o' : Obj} {F : HP} (h : Sat w0 (pt b o * F) w) (hb : w'.heap[b]? = some o') (hk : ∀ k, k ≠ b → w'.heap[k]? = w.heap[k]?)
    (h1 : w'.os = w.os) (h2 : w'.tape = w.tape) (h3 : w'.output = w.output) (hs : w.heap.size ≤ w'.heap.size) : Sat w0 (pt b o' * F) w' := by
  refine ⟨h1.trans h.os, h2.trans h.tape, h3.trans h.output, Nat.le_trans h.size hs, ?_⟩
  rw [star_left]
  refine Holds.set (o := o) (w := w) ?_ hb hk
  rw [star_left]; exact h.holds

theorem Sat.new {w0 w w' : World} {o : Obj} {F : HP} (h : Sat w0 F w) (hb : w'.heap[w.heap.size]? = some o) (hk : ∀ k, k < w.heap.size → w'.heap[k]? = w.heap[k]?)
    (h1 : w'.os = w.os) (h2 : w'.tape = w.tape) (h3 : w'.output = w.output) (hs : w.heap.size ≤ w'.heap.size) : Sat w0 (pt w.heap.size o * F) w' := by
  refine ⟨h1.trans h.os, h2.trans h.tape, h3.trans h.output, Nat.le_trans h.size hs, ?_⟩
  rw [star_left]
  exact Holds.new h.holds hb hk

theorem Sat.alloc {w0 w : World} {o : Obj} {F : HP} (h : Sat w0 F w) : Sat w0 (pt w.heap.size o * F) (w.alloc o) :=
  h.new (heap_alloc_new w o) (fun k hk => Below.heap_alloc _ _ _ hk) rfl rfl rfl (by simp)

theorem Sat.setCell {w0 w : World} {b off : Nat} {cs : Array Value} {e : TypeId} {fz : Nat × Nat} {F : HP} (v : Value) (h : Sat w0 (pt b (.cells cs e fz) * F) w) :
    Sat w0 (pt b (.cells (cs.setIfInBounds off v) e fz) * F) (w.setCell ⟨b, off, none⟩ v) := by
  refine h.set ?_ (fun k hk => Below.heap_setCell _ _ _ _ hk) rfl rfl rfl (by simp [World.setCell])
  have := h.get
  simp [World.setCell, Array.getElem?_modify, this]

end Go.E
