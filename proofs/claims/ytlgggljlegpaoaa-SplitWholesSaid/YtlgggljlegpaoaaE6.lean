/-
  Memory: the blocks that a walk knows ('Hp': a logical heap), what a load reads there, what a store, a new variable, a new row do to it.
-/
import Derived.Test.YtlgggljlegpaoaaE1
import Derived.Test.YtlgggljlegpaoaaE5
import Derived.IntWalk
namespace Go.E
open Go.RowKit

inductive LO where
  | lay (cs : List LV) (t : TypeId)
  | arr (cs : List Value) (t : TypeId)
  | ro
  | obj (o : Obj)

abbrev Hp := List (Nat × LO)
def Hp.get : Hp → Nat → Option LO
  | [], _ => none
  | (k, v) :: r, t => bif Nat.beq k t then some v else Hp.get r t
def Hp.set : Hp → Nat → LO → Hp
  | [], _, _ => []
  | (k, v) :: r, t, x => bif Nat.beq k t then (k, x) :: r else (k, v) :: Hp.set r t x
def Hp.del1 : Hp → Nat → Hp
  | [], _ => []
  | (k, v) :: r, t => bif Nat.beq k t then r else (k, v) :: Hp.del1 r t
def LO.lt (n : Nat) : LO → Bool
  | .lay cs _ => ltL n cs
  | _ => true
def Hp.lt (n : Nat) : Hp → Bool
  | [] => true
  | (k, v) :: r => Nat.blt k n && (v.lt n && Hp.lt n r)

def denO (β : List Nat) : LO → Obj
  | .lay cs t => .cells (denL β cs).toArray t
  | .arr cs t => .cells cs.toArray t
  | .ro => default
  | .obj o => o

def atom (w0 : World) (β : List Nat) (i : Nat) : LO → HP
  | .ro => pur (bk β i < w0.heap.size)
  | lo => pt (bk β i) (denO β lo)
def satH (w0 : World) (β : List Nat) : Hp → HP
  | [] => 1
  | (i, lo) :: r => atom w0 β i lo * satH w0 β r

section
variable {w0 : World} {β : List Nat}

theorem satH_get {i : Nat} {lo : LO} : ∀ {H : Hp}, H.get i = some lo → satH w0 β H = atom w0 β i lo * satH w0 β (H.del1 i)
  | [], h => by simp [Hp.get] at h
  | (k, v) :: r, h => by
    simp only [Hp.get] at h
    cases hk : Nat.beq k i <;> rw [hk] at h
    · simp only [cond_false] at h
      simp only [Hp.del1, hk, cond_false, satH]
      rw [satH_get h, star_left]
    · simp only [cond_true, Option.some.injEq] at h
      have := Nat.eq_of_beq_eq_true hk
      subst this; subst h
      simp only [Hp.del1, hk, cond_true, satH]

theorem satH_set {i : Nat} {lo lo' : LO} : ∀ {H : Hp}, H.get i = some lo → satH w0 β (H.set i lo') = atom w0 β i lo' * satH w0 β (H.del1 i)
  | [], h => by simp [Hp.get] at h
  | (k, v) :: r, h => by
    simp only [Hp.get] at h
    cases hk : Nat.beq k i <;> rw [hk] at h
    · simp only [cond_false] at h
      simp only [Hp.del1, Hp.set, hk, cond_false, satH]
      rw [satH_set h, star_left]
    · have := Nat.eq_of_beq_eq_true hk
      subst this
      simp only [Hp.del1, Hp.set, hk, cond_true, satH]

theorem denO_append {γ : List Nat} {lo : LO} (h : lo.lt β.length = true) : denO (β ++ γ) lo = denO β lo := by
  cases lo <;> simp only [denO]
  rw [denL_append (by simpa only [LO.lt] using h)]

theorem satH_append {γ : List Nat} : ∀ {H : Hp}, H.lt β.length = true → satH w0 (β ++ γ) H = satH w0 β H
  | [], _ => rfl
  | (k, v) :: r, h => by
    simp only [Hp.lt, Bool.and_eq_true] at h
    simp only [satH, satH_append h.2.2]
    congr 1
    cases v <;> simp only [atom, bk_append h.1] <;> rw [denO_append h.2.1]

end

/-- The cells from off on are those of l. -/
def rowAt (β : List Nat) (get : Nat → Option Value) : Nat → List LV → Prop
  | _, [] => True
  | off, x :: r => get off = some (den β x) ∧ rowAt β get (off + 1) r

theorem rowAt_spec {β : List Nat} {get : Nat → Option Value} : ∀ {l : List LV} {off : Nat}, rowAt β get off l → ∀ j v, (denL β l)[j]? = some v → get (off + j) = some v
  | [], _, _, j, v, h => by simp [denL] at h
  | x :: r, off, h, j, v, hj => by
    cases j with
    | zero => simp only [denL, List.getElem?_cons_zero, Option.some.injEq] at hj; subst hj; exact h.1
    | succ j =>
      simp only [denL, List.getElem?_cons_succ] at hj
      have := rowAt_spec h.2 j v hj
      rwa [show off + (j + 1) = off + 1 + j by omega]

def roCell (w0 : World) (β : List Nat) (i : Nat) (off : Nat) : Option Value := w0.cell? ⟨bk β i, off, none⟩

def loadAsk (ag : Bool) (n : Nat) (get : List Nat → Nat → Option Value) (off : Nat) (lv : LV) : Option NeedL :=
  bif ag then (match lv with
    | .agg l => bif Nat.beq l.length n then some [fun β => rowAt β (get β) off l] else none
    | _ => none)
  else some [fun β => get β off = some (den β lv)]

/-- A cell of the world in which a call began. -/
def aCell (w0 : World) (a : Addr) (j : Nat) : Option Value := if a.block < w0.heap.size then w0.cell? (a.add j) else none

def loadL (w0 : World) (P : Program) (H : Hp) (orc : List LV) (t : TypeId) (x : LV) : Option (LV × NeedL × List LV) :=
  match x with
  | .ptr id off => (match aggT P t, szOf P t, H.get id with
    | some ag, some n, some lo => (match lo with
      | .lay cs _ => bif ag then (bif Nat.ble (off + n) cs.length then some (.agg ((cs.drop off).take n), [], orc) else none)
          else (cs[off]?).map fun v => (v, [], orc)
      | .arr cs _ => (match orc with
        | lv :: orc' => (loadAsk ag n (fun _ j => cs[j]?) off lv).map fun ns => (lv, ns, orc')
        | [] => none)
      | .ro => (match orc with
        | lv :: orc' => (loadAsk ag n (fun β j => roCell w0 β id j) off lv).map fun ns => (lv, ns, orc')
        | [] => none)
      | .obj _ => none)
    | _, _, _ => none)
  | .raw (.pointer (some a)) => (match aggT P t, szOf P t, orc with
    | some ag, some n, lv :: orc' => (loadAsk ag n (fun _ j => aCell w0 a j) 0 lv).map fun ns => (lv, ns, orc')
    | _, _, _ => none)
  | _ => none

def evalLoad (w0 : World) (P : Program) (fr : Fr) (H : Hp) (orc : List LV) (c : Ctx) (o : Oper) : Option (LV × NeedL × List LV) :=
  match o.op with
  | .load t x => (arg fr c x).bind fun x' => loadL w0 P H orc t x'
  | _ => none

def zrep (z : List LV) (n : Nat) : List LV := (List.range n).map fun i => z.getD (i % z.length) (.cst undef)

structure Eff where
  tgt : Option Nat := none
  dst : Option LV
  ns : NeedL
  H : Hp
  nx : Nat

def storeL (P : Program) (H : Hp) (nx : Nat) (t : TypeId) (x : LV) (v : LV) : Option Eff :=
  match x with
  | .ptr id off => (cellsN v).bind fun (l, ns) => (match szOf P t, H.get id with
    | some n, some lo => bif Nat.beq l.length n then (match lo with
      | .lay cs ty => bif Nat.ble (off + l.length) cs.length then some { tgt := some id, dst := none, ns := ns, H := H.set id (.lay (setL cs off l) ty), nx := nx } else none
      | .arr cs ty => bif ltL 0 l then some { tgt := some id, dst := none, ns := ns ++ [fun _ => off + l.length ≤ cs.length], H := H.set id (.arr (setL cs off (denL [] l)) ty), nx := nx } else none
      | _ => none) else none
    | _, _ => none)
  | _ => none

def newL (fr : Fr) (H : Hp) (nx : Nat) (lo : LO) (r : LV) (ns : NeedL) : Option Eff :=
  bif fr.lt nx && (H.lt nx && lo.lt nx) then some { dst := some r, ns := ns, H := (nx, lo) :: H, nx := nx + 1 } else none

def mkN (li ci : Int) (b : Nat) : NeedL := [fun _ => 0 ≤ li ∧ li ≤ ci ∧ (b : Int) * ci ≤ 140737488355328 ∧ ci ≤ 9223372036854775807]

def evalEff (P : Program) (fr : Fr) (H : Hp) (nx : Nat) (c : Ctx) (o : Oper) : Option Eff :=
  match o.op with
  | .store t x v => (arg fr c x).bind fun x' => (arg fr c v).bind fun v' => storeL P H nx t x' v'
  | .alloc t => (zeroL P t).bind fun z => newL fr H nx (.lay z t) (.ptr nx 0) []
  | .box t v => (arg fr c v).bind fun v' => (cellsN v').bind fun (l, n2) => newL fr H nx (.lay l t) (.ptr nx 0) n2
  | .buildSlice t len parts => (match P.underlying t with
    | some (.slice e) => (szOf P e).bind fun sz => (zeroL P e).bind fun z => (partsN fr c parts.toList).bind fun (ps, ns) =>
        bif Nat.ble (len * sz) 16777216 && (Nat.beq z.length sz && Nat.blt 0 sz) then
          (fillL (fun i => some (i * sz, sz)) (zrep z (len * sz)) ps).bind fun cs => newL fr H nx (.lay cs e) (.sl nx 0 len len) ns
        else none
    | _ => none)
  | .makeMap _ r => (match r with
    | none => newL fr H nx (.obj (.map #[] 0)) (.mp nx) []
    | some _ => none)
  | .makeSlice t l cp => (arg fr c l).bind fun l' => (arg fr c cp).bind fun c' => (match l', c', P.underlying t with
    | .int _ li, .int _ ci, some (.slice e) => (szOf P e).bind fun sz => (zeroL P e).bind fun z => (match P.info? e with
      | some i => bif ltL 0 z && (Nat.beq z.length sz && Nat.blt 0 sz) then
          newL fr H nx (.arr (denL [] (zrep z (ci.toNat * sz))) e) (.sl nx 0 li.toNat ci.toNat) (mkN li ci i.bytes)
        else none
      | none => none)
    | _, _, _ => none)
  | _ => none

/-! ### Soundness -/
section
variable {P : Program} {β : List Nat} {fr : Fr} {a : Act} {w w0 : World} {c : Ctx} {H : Hp} {F : HP}

abbrev HSat (w0 : World) (β : List Nat) (H : Hp) (F : HP) (w : World) : Prop := Sat w0 (satH w0 β H * F) w

theorem HSat.heap (h : HSat w0 β H F w) {i : Nat} {lo : LO} (hg : H.get i = some lo) (hlo : lo ≠ .ro) : w.heap[bk β i]? = some (denO β lo) := by
  unfold HSat at h
  rw [satH_get hg] at h
  have : atom w0 β i lo = pt (bk β i) (denO β lo) := by cases lo <;> first | rfl | exact absurd rfl hlo
  rw [this, star_assoc] at h
  exact h.get

theorem HSat.roLt (h : HSat w0 β H F w) {i : Nat} (hg : H.get i = some .ro) : bk β i < w0.heap.size := by
  unfold HSat at h
  rw [satH_get hg, show atom w0 β i .ro = pur (bk β i < w0.heap.size) from rfl, star_assoc] at h
  exact h.pure.1

/-- What a load may know of a world. -/
structure Look (w0 : World) (β : List Nat) (H : Hp) (w : World) : Prop where
  heap : ∀ i lo, H.get i = some lo → lo ≠ .ro → w.heap[bk β i]? = some (denO β lo)
  roLt : ∀ i, H.get i = some .ro → bk β i < w0.heap.size
  base : ∀ k, k < w0.heap.size → w.heap[k]? = w0.heap[k]?

theorem HSat.look (h : HSat w0 β H F w) : Look w0 β H w := ⟨fun _ _ hg hlo => h.heap hg hlo, fun _ hg => h.roLt hg, fun _ hk => h.holds.base_get hk⟩

theorem cell_of_heap {b off : Nat} {cs : Array Value} {t : TypeId} {fz : Nat × Nat} (h : w.heap[b]? = some (.cells cs t fz)) : w.cell? ⟨b, off, none⟩ = cs[off]? := by
  simp [World.cell?, h]
theorem frozen_of_heap {b off : Nat} {cs : Array Value} {t : TypeId} (h : w.heap[b]? = some (.cells cs t (0, 0))) : w.frozen? ⟨b, off, none⟩ = false := by
  simp [World.frozen?, h]

theorem run_load1 {t : TypeId} {b off : Nat} {v : Value} (hag : aggT P t = some false) (h : w.cell? ⟨b, off, none⟩ = some v) : (Instr.loadAt t (.pointer (some ⟨b, off, none⟩))).run P w = .ok v w := by
  simp [Instr.loadAt, Instr.sureAddr, loadVar, run_isAgg' hag, load, Sem.run, h]

theorem run_loadN {t : TypeId} {b off : Nat} {l : List Value} (hag : aggT P t = some true) (hz : szOf P t = some l.length) (h : ∀ j v, l[j]? = some v → w.cell? ⟨b, off + j, none⟩ = some v) :
    (Instr.loadAt t (.pointer (some ⟨b, off, none⟩))).run P w = .ok (.agg l.toArray) w := by
  have := run_loadCells_list (P := P) w ⟨b, off, none⟩ l (fun j v hj => by rw [Addr.add_lit]; exact h j v hj)
  simp [Instr.loadAt, Instr.sureAddr, loadVar, run_isAgg' hag, run_sizeOf' hz, this]

theorem loadAsk_spec {ag : Bool} {n : Nat} {get : List Nat → Nat → Option Value} {off b : Nat} {lv : LV} {ns : NeedL} {t : TypeId} (hag : aggT P t = some ag) (hz : szOf P t = some n)
    (hget : ∀ j v, get β j = some v → w.cell? ⟨b, j, none⟩ = some v) (h : loadAsk ag n get off lv = some ns) (hn : allP β ns) :
    (Instr.loadAt t (.pointer (some ⟨b, off, none⟩))).run P w = .ok (den β lv) w := by
  unfold loadAsk at h
  cases ag
  · simp only [cond_false, Option.some.injEq] at h
    subst h
    exact run_load1 hag (hget _ _ hn.1)
  · simp only [cond_true] at h
    split at h
    · rename_i l
      cases hb : Nat.beq l.length n <;> rw [hb] at h
      · cases h
      · simp only [cond_true, Option.some.injEq] at h
        subst h
        have hl := Nat.eq_of_beq_eq_true hb
        subst hl
        refine (run_loadN (l := denL β l) hag (by rw [denL_length]; exact hz) fun j v hj => hget _ _ (rowAt_spec hn.1 j v hj)).trans ?_
        rfl
    · cases h

theorem aCell_spec {a : Addr} {j : Nat} {v : Value} (hb : ∀ k, k < w0.heap.size → w.heap[k]? = w0.heap[k]?) (h : aCell w0 a j = some v) : w.cell? (a.add j) = some v := by
  unfold aCell at h
  split at h
  · rename_i hlt
    rw [World.cell?_of_block (w := w0)]
    · exact h
    · have e : (a.add j).block = a.block := by unfold Addr.add; split <;> rfl
      rw [e]; exact hb _ hlt
  · cases h

theorem loadAsk_specA {ag : Bool} {n : Nat} {a : Addr} {lv : LV} {ns : NeedL} {t : TypeId} (hag : aggT P t = some ag) (hz : szOf P t = some n)
    (hb : ∀ k, k < w0.heap.size → w.heap[k]? = w0.heap[k]?) (h : loadAsk ag n (fun _ j => aCell w0 a j) 0 lv = some ns) (hn : allP β ns) :
    (Instr.loadAt t (.pointer (some a))).run P w = .ok (den β lv) w := by
  unfold loadAsk at h
  cases ag
  · simp only [cond_false, Option.some.injEq] at h
    subst h
    have := aCell_spec hb hn.1
    rw [show a.add 0 = a from rfl] at this
    simp [Instr.loadAt, Instr.sureAddr, loadVar, run_isAgg' hag, load, Sem.run, this]
  · simp only [cond_true] at h
    split at h
    · rename_i l
      cases hq : Nat.beq l.length n <;> rw [hq] at h
      · cases h
      · simp only [cond_true, Option.some.injEq] at h
        subst h
        have hl := Nat.eq_of_beq_eq_true hq
        subst hl
        have := run_loadCells_list (P := P) w a (denL β l) (fun j v hj => aCell_spec hb (by have := rowAt_spec hn.1 j v hj; rwa [Nat.zero_add] at this))
        have hz' : szOf P t = some (denL β l).length := by rw [denL_length]; exact hz
        simp [Instr.loadAt, Instr.sureAddr, loadVar, run_isAgg' hag, run_sizeOf' hz', this, den]
    · cases h

theorem loadL_spec (hs : Look w0 β H w) {orc orc' : List LV} {t : TypeId} {x v : LV} {ns : NeedL} (h : loadL w0 P H orc t x = some (v, ns, orc')) (hn : allP β ns) :
    (Instr.loadAt t (den β x)).run P w = .ok (den β v) w := by
  unfold loadL at h
  split at h
  · rename_i id off
    split at h
    · rename_i ag n lo hag hz hg
      split at h
      · rename_i cs ty
        have hh := hs.heap _ _ hg (by simp)
        simp only [denO] at hh
        cases ag
        · simp only [cond_false] at h
          obtain ⟨u, hu, he⟩ := Option.map_eq_some_iff.1 h
          simp only [Prod.mk.injEq] at he
          obtain ⟨rfl, rfl, rfl⟩ := he
          refine run_load1 hag ?_
          rw [cell_of_heap hh]
          simp [denL_map, hu]
        · simp only [cond_true] at h
          cases hb : Nat.ble (off + n) cs.length <;> rw [hb] at h
          · cases h
          · simp only [cond_true, Option.some.injEq, Prod.mk.injEq] at h
            obtain ⟨rfl, rfl, rfl⟩ := h
            have hle := Nat.le_of_ble_eq_true hb
            have hlen : (denL β ((cs.drop off).take n)).length = n := by rw [denL_length]; simp; omega
            refine (run_loadN (l := denL β ((cs.drop off).take n)) hag (by rw [hlen]; exact hz) fun j v hj => ?_).trans rfl
            rw [cell_of_heap hh]
            simp only [denL_map, List.map_take, List.map_drop, List.getElem?_take, List.getElem?_drop] at hj ⊢
            split at hj
            · simpa using hj
            · cases hj
      · rename_i cs ty
        have hh := hs.heap _ _ hg (by simp)
        simp only [denO] at hh
        split at h
        · obtain ⟨ms, hm, he⟩ := Option.map_eq_some_iff.1 h
          simp only [Prod.mk.injEq] at he
          obtain ⟨rfl, rfl, rfl⟩ := he
          exact loadAsk_spec hag hz (fun j v hj => by rw [cell_of_heap hh]; simpa using hj) hm hn
        · cases h
      · split at h
        · obtain ⟨ms, hm, he⟩ := Option.map_eq_some_iff.1 h
          simp only [Prod.mk.injEq] at he
          obtain ⟨rfl, rfl, rfl⟩ := he
          exact loadAsk_spec hag hz (fun j v hj => by rw [World.cell?_of_block (w := w0) (hs.base _ (hs.roLt _ hg))]; exact hj) hm hn
        · cases h
      · cases h
    · cases h
  · split at h
    · rename_i ag n lv orc' hag hz
      obtain ⟨ms, hm, he⟩ := Option.map_eq_some_iff.1 h
      simp only [Prod.mk.injEq] at he
      obtain ⟨rfl, rfl, rfl⟩ := he
      exact loadAsk_specA hag hz hs.base hm hn
    · cases h
  · cases h

theorem evalLoad_spec (ha : Agree β fr a) (hg : GdOk fr) (hc : Cok fr c) (hs : Look w0 β H w) {orc orc' : List LV} {o : Oper} {v : LV} {ns : NeedL} (h : evalLoad w0 P fr H orc c o = some (v, ns, orc')) (hn : allP β ns) :
    (execOp a.eval o).run P w = .ok (.value (den β v)) w := by
  unfold evalLoad at h
  split at h
  · rename_i t x ho
    obtain ⟨x', h1, h2⟩ := Option.bind_eq_some_iff.1 h
    have : execOp a.eval o = (do pure (.value (← Instr.loadAt t (a.eval x)))) := by unfold execOp; rw [ho]
    rw [this, arg_spec ha hg hc h1]
    simp [loadL_spec hs h2 hn]
  · cases h

/-! A store -/
theorem storeCells_run : ∀ {vs : List Value} {w : World} {b off i : Nat} {cs : Array Value} {t : TypeId}, w.heap[b]? = some (.cells cs t (0, 0)) → (∀ v ∈ vs, Value.one v = true) → off + i + vs.length ≤ cs.size →
    ∃ w', (storeCells ⟨b, off, none⟩ vs i).run P w = .ok () w' ∧ w'.heap[b]? = some (.cells (setL cs.toList (off + i) vs).toArray t (0, 0)) ∧ (∀ k, k ≠ b → w'.heap[k]? = w.heap[k]?) ∧
      w'.os = w.os ∧ w'.tape = w.tape ∧ w'.output = w.output ∧ w'.heap.size = w.heap.size
  | [], w, b, off, i, cs, t, hb, _, _ => ⟨w, by simp [storeCells], by simpa [setL] using hb, fun _ _ => rfl, rfl, rfl, rfl, rfl⟩
  | v :: r, w, b, off, i, cs, t, hb, h1, hl => by
    simp only [List.length_cons] at hl
    have hv : Value.one v = true := h1 v (by simp)
    have hcell : w.cell? ⟨b, off + i, none⟩ = some cs[off + i] := by rw [cell_of_heap hb]; simp [show off + i < cs.size by omega]
    have hfz : w.frozen? ⟨b, off + i, none⟩ = false := frozen_of_heap hb
    have hst : (store ⟨b, off + i, none⟩ v).run P w = .ok () (w.setCell ⟨b, off + i, none⟩ v) := by
      cases v <;> first | (simp [Value.one] at hv; done) | simp [store, Sem.run, hcell, hfz]
    have hb' : (w.setCell ⟨b, off + i, none⟩ v).heap[b]? = some (.cells (cs.setIfInBounds (off + i) v) t (0, 0)) := by
      simp [World.setCell, Array.getElem?_modify, hb]
    obtain ⟨w', hr, hh, hk, e1, e2, e3, e4⟩ := storeCells_run (vs := r) (w := w.setCell ⟨b, off + i, none⟩ v) (b := b) (off := off) (i := i + 1) hb' (fun u hu => h1 u (by simp [hu])) (by simp; omega)
    refine ⟨w', ?_, ?_, fun k hk' => (hk k hk').trans (Below.heap_setCell _ _ _ _ hk'), e1, e2, e3, by rw [e4]; simp [World.setCell]⟩
    · simp only [storeCells, Addr.add_lit, Sem.run_bind, hst, Result.andThen]; exact hr
    · rw [hh]; simp [setL, Nat.add_assoc]

theorem storeL_spec (hs : HSat w0 β H F w) {nx : Nat} {t : TypeId} {x v : LV} {e : Eff} (h : storeL P H nx t x v = some e) (hn : allP β e.ns) :
    e.dst = none ∧ e.nx = nx ∧ e.tgt ≠ none ∧ ∃ w', (Instr.storeAt t (den β x) (den β v)).run P w = .ok () w' ∧ HSat w0 β e.H F w' := by
  unfold storeL at h
  split at h
  · rename_i id off
    obtain ⟨⟨l, ns⟩, hc, h⟩ := Option.bind_eq_some_iff.1 h
    simp only at h
    split at h
    · rename_i n lo hz hg
      cases hb : Nat.beq l.length n <;> rw [hb] at h
      · cases h
      · simp only [cond_true] at h
        have hl := Nat.eq_of_beq_eq_true hb
        subst hl
        have fin : ∀ {lo' : LO} {cs : Array Value} {ty : TypeId}, allP β ns → lo ≠ .ro → denO β lo = .cells cs ty (0, 0) → lo' ≠ .ro → denO β lo' = .cells (setL cs.toList off (denL β l)).toArray ty (0, 0) → off + l.length ≤ cs.size →
            ∃ w', (Instr.storeAt t (den β (.ptr id off)) (den β v)).run P w = .ok () w' ∧ HSat w0 β (H.set id lo') F w' := by
          intro lo' cs ty hns hro hden hro' hden' hle
          obtain ⟨c1, c2⟩ := cellsN_spec hc hns
          have hh := hs.heap hg hro
          rw [hden] at hh
          obtain ⟨w', hr, hb', hk, e1, e2, e3, e4⟩ := storeCells_run (P := P) (vs := denL β l) (off := off) (i := 0) hh c2 (by rw [denL_length]; simpa using hle)
          refine ⟨w', ?_, ?_⟩
          · have hsz : (den β v).cells.size = l.length := by rw [← Array.length_toList, c1, denL_length]
            simp only [Instr.storeAt, den, Instr.sureAddr, Sem.run_bind, Sem.run_pure, Result.andThen, storeVar, run_sizeOf' hz, hsz]
            rw [c1, if_neg (by simp)]; exact hr
          · unfold HSat at hs ⊢
            rw [satH_set hg, show atom w0 β id lo' = pt (bk β id) (denO β lo') by cases lo' <;> first | rfl | exact absurd rfl hro', star_assoc, hden']
            rw [satH_get hg, show atom w0 β id lo = pt (bk β id) (denO β lo) by cases lo <;> first | rfl | exact absurd rfl hro, star_assoc] at hs
            exact hs.set (by simpa using hb') hk e1 e2 e3 (by omega)
        split at h
        · rename_i cs ty
          cases hb2 : Nat.ble (off + l.length) cs.length <;> rw [hb2] at h
          · cases h
          · simp only [cond_true, Option.some.injEq] at h
            subst h
            refine ⟨rfl, rfl, by simp, fin (cs := (denL β cs).toArray) (ty := ty) hn (by simp) rfl (by simp) ?_ ?_⟩
            · simp only [denO, denL_setL]
            · have := Nat.le_of_ble_eq_true hb2
              simpa [denL_length] using this
        · rename_i cs ty
          cases hb2 : ltL 0 l <;> rw [hb2] at h
          · cases h
          · simp only [cond_true, Option.some.injEq] at h
            subst h
            simp only at hn
            rw [allP_append] at hn
            have hd : denL β l = denL [] l := by have := denL_append (β := []) (γ := β) (l := l) hb2; simpa using this
            refine ⟨rfl, rfl, by simp, fin (cs := cs.toArray) (ty := ty) hn.1 (by simp) rfl (by simp) ?_ ?_⟩
            · simp only [denO, hd]
            · simpa using hn.2.1
        · cases h
    · cases h
  · cases h

theorem newL_spec (hs : HSat w0 β H F w) {nx : Nat} (hnx : nx = β.length) {lo : LO} (hlo : lo ≠ .ro) {r : LV} {ns : NeedL} {e : Eff} (h : newL fr H nx lo r ns = some e) :
    e.dst = some r ∧ e.ns = ns ∧ e.nx = nx + 1 ∧ fr.lt nx = true ∧ lo.lt nx = true ∧ HSat w0 (β ++ [w.heap.size]) e.H F (w.alloc (denO β lo)) := by
  unfold newL at h
  cases hb : fr.lt nx && (H.lt nx && lo.lt nx) <;> rw [hb] at h
  · cases h
  · simp only [cond_true, Option.some.injEq] at h
    subst h
    simp only [Bool.and_eq_true] at hb
    refine ⟨rfl, rfl, rfl, hb.1, hb.2.2, ?_⟩
    unfold HSat at hs ⊢
    subst hnx
    simp only [satH]
    rw [satH_append hb.2.1]
    have hbk : bk (β ++ [w.heap.size]) β.length = w.heap.size := by simp [bk]
    rw [show atom w0 (β ++ [w.heap.size]) β.length lo = pt w.heap.size (denO β lo) by
      rw [← denO_append (γ := [w.heap.size]) hb.2.2]; cases lo <;> first | (simp only [atom, hbk]; done) | exact absurd rfl hlo, star_assoc]
    exact hs.alloc

theorem zrep_spec {zv : Array Value} {z : List LV} (hz : zv.toList = denL β z) (hp : 0 < z.length) (n : Nat) :
    ((Array.range n).map fun i => zv[i % zv.size]!).toList = denL β (zrep z n) := by
  have hs : zv.size = z.length := by rw [← Array.length_toList, hz, denL_length]
  simp only [Array.toList_map, Array.toList_range, denL_map, zrep, List.map_map]
  refine List.map_congr_left fun i _ => ?_
  have hlt : i % zv.size < zv.size := Nat.mod_lt _ (by omega)
  have h1 : zv[i % zv.size]! = zv[i % zv.size] := by simp [hlt]
  have h2 : zv.toList[i % zv.size]? = some zv[i % zv.size] := by rw [Array.getElem?_toList]; simp [hlt]
  rw [hz, denL_map, List.getElem?_map] at h2
  obtain ⟨u, hu, he⟩ := Option.map_eq_some_iff.1 h2
  simp only [Function.comp, h1, ← he]
  rw [hs] at hu
  simp [List.getD, hu]

theorem bk_new (β : List Nat) (b : Nat) : bk (β ++ [b]) β.length = b := by simp [bk]

theorem run_buildSlice {t el : TypeId} {len sz : Nat} {parts : Array (Nat × Value)} {zv : Value} {out : Array Value} (hu : P.underlying t = some (.slice el)) (hsz : szOf P el = some sz) (hle : len * sz ≤ 16777216)
    (z1 : ∀ w, (zeroValue el).run P w = .ok zv w)
    (hf : ∀ za : Array Value, (za = if len * sz = 0 then #[] else zv.cells) → Instr.fill (fun i => some (i * sz, sz)) ((Array.range (len * sz)).map fun i => za[i % za.size]!) parts.toList = some out) :
    (Instr.buildSlice t len parts).run P w = .ok (.slice (some ⟨w.heap.size, 0, none⟩) len len) (w.alloc (.cells out el)) := by
  have hno : ¬ (len * sz > 2 ^ 24) := by have : (2 : Nat) ^ 24 = 16777216 := rfl; omega
  unfold Instr.buildSlice
  simp only [Sem.run_bind, run_underlying hu, run_sizeOf' hsz, Result.andThen, hno, if_false]
  by_cases h0 : len * sz = 0
  · have hq := hf #[] (by rw [if_pos h0])
    simp only [h0, if_true]
    simp only [h0] at hq
    simp only [hq, newRow, Sem.run_bind, run_newObj_alloc, Sem.run_pure, Result.andThen]
  · have hq := hf zv.cells (by rw [if_neg h0])
    simp only [h0, if_false, Sem.run_bind, z1, Sem.run_pure, Result.andThen, hq, newRow, run_newObj_alloc]

theorem run_makeSlice {t el : TypeId} {k1 k2 : IntKind} {li ci : Int} {sz : Nat} {i : TypeInfo} {zv : Value} {out : Array Value} (hu : P.underlying t = some (.slice el)) (hi : P.info? el = some i) (hsz : szOf P el = some sz)
    (z1 : ∀ w, (zeroValue el).run P w = .ok zv w) (m1 : 0 ≤ li) (m2 : li ≤ ci) (m3 : (i.bytes : Int) * ci ≤ 140737488355328) (m4 : ci ≤ 9223372036854775807)
    (hf : ∀ za : Array Value, (za = if ci.toNat * sz = 0 then #[] else zv.cells) → ((Array.range (ci.toNat * sz)).map fun i => za[i % za.size]!) = out) :
    (Instr.makeSlice t (.int k1 li) (.int k2 ci)).run P w = .ok (.slice (some ⟨w.heap.size, 0, none⟩) li.toNat ci.toNat) (w.alloc (.cells out el)) := by
  have wl : IntKind.i64.wrap li = li := IntWalk.i64_in _ (by omega)
  have wc : IntKind.i64.wrap ci = ci := IntWalk.i64_in _ (by omega)
  have e47 : (2 : Nat) ^ 47 = 140737488355328 := rfl
  have e48 : (2 : Int) ^ 48 = 281474976710656 := rfl
  have hle : ¬ (ci.toNat * i.bytes > roomBytes) := by
    have e : ((ci.toNat * i.bytes : Nat) : Int) = (i.bytes : Int) * ci := by
      rw [Int.natCast_mul, Int.toNat_of_nonneg (by omega), Int.mul_comm]
    unfold roomBytes; omega
  have t1 : (decide (ci < 0) || decide ((i.bytes : Int) * ci > 2 ^ 48)) = false := by
    rw [e48]; simp only [Bool.or_eq_false_iff, decide_eq_false_iff_not]; omega
  have t2 : decide (li < 0) = false := by simp only [decide_eq_false_iff_not]; omega
  have t3 : decide (li > ci) = false := by simp only [decide_eq_false_iff_not]; omega
  unfold Instr.makeSlice
  simp only [Sem.run_bind, run_underlying hu, Result.andThen, asInt, asIntOf, Sem.run_pure, run_typeInfo' hi, wl, wc, t1, t2, t3, Bool.or_false, Bool.false_eq_true, if_false, askRoom, hle, run_sizeOf' hsz]
  by_cases h0 : ci.toNat * sz = 0
  · have hq := hf #[] (by rw [if_pos h0])
    simp only [h0, if_true]
    simp only [h0] at hq
    simp only [hq, newRow, Sem.run_bind, run_newObj_alloc, Sem.run_pure, Result.andThen]
  · have hq := hf zv.cells (by rw [if_neg h0])
    simp only [h0, if_false, Sem.run_bind, z1, Sem.run_pure, Result.andThen, hq, newRow, run_newObj_alloc]

/-- What an effect leaves: perhaps a block more, the heap as told. -/
def EffOk (P : Program) (w0 : World) (β : List Nat) (fr : Fr) (F : HP) (a : Act) (w : World) (o : Oper) (nx : Nat) (e : Eff) : Prop :=
  ∃ γ w', e.nx = nx + γ.length ∧ γ.length ≤ 1 ∧ (γ = [] ∨ fr.lt nx = true) ∧ (e.tgt = none → ∀ k, k < w.heap.size → w'.heap[k]? = w.heap[k]?) ∧ (∀ r, e.dst = some r → r.isGd = false) ∧ HSat w0 (β ++ γ) e.H F w' ∧
    (match e.dst with
    | some r => (execOp a.eval o).run P w = .ok (.value (den (β ++ γ) r)) w'
    | none => (execOp a.eval o).run P w = .ok .skip w')

theorem evalEff_spec (ha : Agree β fr a) (hg : GdOk fr) (hc : Cok fr c) (hs : HSat w0 β H F w) {nx : Nat} (hnx : nx = β.length) {o : Oper} {e : Eff} (h : evalEff P fr H nx c o = some e) (hn : allP β e.ns) :
    EffOk P w0 β fr F a w o nx e := by
  have ex1 : ∀ {op}, o.op = op → execOp a.eval o = execOp a.eval { o with op } := fun e => by rw [← e]
  unfold evalEff at h
  split at h
  · rename_i t x v ho
    obtain ⟨x', h1, h⟩ := Option.bind_eq_some_iff.1 h
    obtain ⟨v', h2, h3⟩ := Option.bind_eq_some_iff.1 h
    obtain ⟨d1, d2, d3, w', hr, hs'⟩ := storeL_spec hs h3 hn
    refine ⟨[], w', by simp [d2], by simp, .inl rfl, fun e => absurd e d3, fun r e => (by rw [d1] at e; cases e), by simpa using hs', ?_⟩
    simp only [d1]
    rw [ex1 ho]
    simp [execOp, arg_spec ha hg hc h1, arg_spec ha hg hc h2, hr]
  · rename_i t ho
    obtain ⟨z, hz, h⟩ := Option.bind_eq_some_iff.1 h
    obtain ⟨d1, d2, d3, d4, d5, d6⟩ := newL_spec hs hnx (by simp) h
    obtain ⟨zv, z1, z2, z3⟩ := zeroL_spec hz
    refine ⟨[w.heap.size], _, by simp [d3], by simp, .inr d4, fun _ k hk => Below.heap_alloc _ _ _ hk, fun r e => (by rw [d1] at e; cases e; rfl), d6, ?_⟩
    simp only [d1]
    rw [ex1 ho]
    subst hnx
    have : (denL β z).toArray = zv.cells := by rw [← z2 β]
    simp [execOp, Instr.alloc, z1, newVar, newRow, den, bk_new, denO, this]
  · rename_i t v ho
    obtain ⟨v', h1, h⟩ := Option.bind_eq_some_iff.1 h
    obtain ⟨⟨l, n2⟩, h2, h⟩ := Option.bind_eq_some_iff.1 h
    obtain ⟨d1, d2, d3, d4, d5, d6⟩ := newL_spec hs hnx (by simp) h
    rw [d2] at hn
    obtain ⟨c1, c2⟩ := cellsN_spec h2 hn
    refine ⟨[w.heap.size], _, by simp [d3], by simp, .inr d4, fun _ k hk => Below.heap_alloc _ _ _ hk, fun r e => (by rw [d1] at e; cases e; rfl), d6, ?_⟩
    simp only [d1]
    rw [ex1 ho]
    subst hnx
    have : (denL β l).toArray = (den β v').cells := by rw [← c1]
    simp [execOp, Instr.box, newVar, newRow, den, bk_new, denO, this, arg_spec ha hg hc h1]
  · rename_i t len parts ho
    split at h
    · rename_i el hu
      obtain ⟨sz, hsz, h⟩ := Option.bind_eq_some_iff.1 h
      obtain ⟨z, hz, h⟩ := Option.bind_eq_some_iff.1 h
      obtain ⟨⟨ps, ns⟩, hps, h⟩ := Option.bind_eq_some_iff.1 h
      simp only at h
      cases hb : Nat.ble (len * sz) 16777216 && (Nat.beq z.length sz && Nat.blt 0 sz) <;> rw [hb] at h
      · cases h
      · simp only [cond_true] at h
        simp only [Bool.and_eq_true] at hb
        have b1 := Nat.le_of_ble_eq_true hb.1
        have b2 := Nat.eq_of_beq_eq_true hb.2.1
        have b3 : 0 < sz := by simpa [Nat.blt_eq] using hb.2.2
        obtain ⟨cs, hf, h⟩ := Option.bind_eq_some_iff.1 h
        obtain ⟨d1, d2, d3, d4, d5, d6⟩ := newL_spec hs hnx (by simp) h
        rw [d2] at hn
        obtain ⟨zv, z1, z2, z3⟩ := zeroL_spec hz
        refine ⟨[w.heap.size], _, by simp [d3], by simp, .inr d4, fun _ k hk => Below.heap_alloc _ _ _ hk, fun r e => (by rw [d1] at e; cases e; rfl), d6, ?_⟩
        simp only [d1]
        rw [ex1 ho]
        subst hnx
        have hps' := partsN_spec ha hg hc hps hn
        have hz' : ∀ za : Array Value, (za = if len * sz = 0 then #[] else zv.cells) → ((Array.range (len * sz)).map fun i => za[i % za.size]!).toList = denL β (zrep z (len * sz)) := by
          intro za hza
          by_cases h0 : len * sz = 0
          · rw [h0]; simp [zrep, denL]
          · rw [if_neg h0] at hza; subst hza; exact zrep_spec (z2 β) (by omega) _
        have hfill : ∀ za : Array Value, (za = if len * sz = 0 then #[] else zv.cells) → Instr.fill (fun i => some (i * sz, sz)) ((Array.range (len * sz)).map fun i => za[i % za.size]!) (parts.map fun (i, x) => (i, a.eval x)).toList = some (denL β cs).toArray := by
          intro za hza
          refine fillL_spec hf (hz' za hza) ?_
          simpa using hps'
        have hrun := run_buildSlice (w := w) (parts := parts.map fun (i, x) => (i, a.eval x)) hu hsz b1 z1 hfill
        refine run_val (s := Instr.buildSlice t len (parts.map fun (i, x) => (i, a.eval x))) (by simp only [execOp]) ?_
        rw [hrun]
        simp only [den, bk_new, denO]
    · cases h
  · rename_i t r ho
    split at h
    · obtain ⟨d1, d2, d3, d4, d5, d6⟩ := newL_spec hs hnx (by simp) h
      refine ⟨[w.heap.size], _, by simp [d3], by simp, .inr d4, fun _ k hk => Below.heap_alloc _ _ _ hk, fun r e => (by rw [d1] at e; cases e; rfl), d6, ?_⟩
      simp only [d1]
      rw [ex1 ho]
      subst hnx
      simp [execOp, Instr.makeMap, den, bk_new, denO]
    · cases h
  · rename_i t l cp ho
    obtain ⟨l', h1, h⟩ := Option.bind_eq_some_iff.1 h
    obtain ⟨c', h2, h⟩ := Option.bind_eq_some_iff.1 h
    split at h
    · rename_i k1 li k2 ci el hu _
      obtain ⟨sz, hsz, h⟩ := Option.bind_eq_some_iff.1 h
      obtain ⟨z, hz, h⟩ := Option.bind_eq_some_iff.1 h
      split at h
      · rename_i i hi
        cases hb : ltL 0 z && (Nat.beq z.length sz && Nat.blt 0 sz) <;> rw [hb] at h
        · cases h
        · simp only [cond_true] at h
          simp only [Bool.and_eq_true] at hb
          have b2 := Nat.eq_of_beq_eq_true hb.2.1
          have b3 : 0 < sz := by simpa [Nat.blt_eq] using hb.2.2
          obtain ⟨d1, d2, d3, d4, d5, d6⟩ := newL_spec hs hnx (by simp) h
          rw [d2] at hn
          obtain ⟨m1, m2, m3, m4⟩ := hn.1
          obtain ⟨zv, z1, z2, z3⟩ := zeroL_spec hz
          refine ⟨[w.heap.size], _, by simp [d3], by simp, .inr d4, fun _ k hk => Below.heap_alloc _ _ _ hk, fun r e => (by rw [d1] at e; cases e; rfl), d6, ?_⟩
          simp only [d1]
          rw [ex1 ho]
          subst hnx
          have hz' : ∀ za : Array Value, (za = if ci.toNat * sz = 0 then #[] else zv.cells) → ((Array.range (ci.toNat * sz)).map fun i => za[i % za.size]!) = (denL [] (zrep z (ci.toNat * sz))).toArray := by
            intro za hza
            apply Array.toList_inj.1
            by_cases h0 : ci.toNat * sz = 0
            · rw [h0]; simp [zrep, denL]
            · rw [if_neg h0] at hza; subst hza; exact zrep_spec (z2 []) (by omega) _
          have hrun := run_makeSlice (k1 := k1) (k2 := k2) (w := w) hu hi hsz z1 m1 m2 m3 m4 hz'
          refine run_val (s := Instr.makeSlice t (a.eval l) (a.eval cp)) (by simp only [execOp]) ?_
          rw [arg_spec ha hg hc h1, arg_spec ha hg hc h2]
          simp only [den]
          rw [hrun]
          simp only [bk_new, denO]
      · cases h
    · cases h
  · cases h

end
end Go.E
