/-
  The prover's own rules: to enter a function, to run on, to put a state in other words, to meet a call or another operation by its contract, to go round a loop, to leave.
-/
import Derived.Test.YtlgggljlegpaoaaE10
namespace Go.E
open Go.RowKit

section
variable {P : Program} {ro : Option Nat} {f : FuncId} {Q : Leave → Act → World → Prop} {cfg : Cfg} {ds : List Deferred} {F : HP}
variable {β : List Nat} {fr : Fr} {H : Hp} {stk : List It}

/-- From a state the walk goes on to its end. -/
def Go (P : Program) (ro : Option Nat) (f : FuncId) (Q : Leave → Act → World → Prop) (cfg : Cfg) (ds : List Deferred) (F : HP) (β : List Nat) (fr : Fr) (H : Hp) (stk : List It) : Prop :=
  ∀ a w, Rel cfg ds F β fr H a w → StkGo P ro f Q cfg β stk a w

theorem Go.stop {s : St} (h : Go P ro f Q cfg ds F β s.fr s.H s.stk) : AtStop P ro f Q cfg ds F β s := fun _ => h

/-- The same, kept shut. -/
@[irreducible] def OkI (P : Program) (ro : Option Nat) (f : FuncId) (Q : Leave → Act → World → Prop) (cfg : Cfg) (ds : List Deferred) (F : HP) (β : List Nat) (r : Res) : Prop := Ok P ro f Q cfg ds F β r

theorem Go.run (hm : P.follows .mixedOrders = true) (n : Nat) (orc : List LV) (hf : flatT stk = true) (h : OkI P ro f Q cfg ds F β (run cfg P n ⟨stk, fr, H, β.length, orc⟩)) : Go P ro f Q cfg ds F β fr H stk :=
  fun a w hR => run_sound hm n ⟨stk, fr, H, β.length, orc⟩ β hf rfl (by unfold OkI at h; exact h) a w hR

theorem Ok.eq {r r' : Res} (e : r = r') (h : Ok P ro f Q cfg ds F β r') : OkI P ro f Q cfg ds F β r := by unfold OkI; exact e ▸ h

/-- The slots of one list are told by another, in other words. -/
def FrEq (β : List Nat) (fr : Fr) (β' : List Nat) (fr' : Fr) : Prop := ∀ t x, fr'.get t = some x → ∃ y, fr.get t = some y ∧ den β' x = den β y
theorem FrEq.refl (β : List Nat) (fr : Fr) : FrEq β fr β fr := fun _ x h => ⟨x, h, rfl⟩
theorem FrEq.append {γ : List Nat} (h : fr.lt β.length = true) : FrEq β fr (β ++ γ) fr := fun _ x hx => ⟨x, hx, den_append (Fr.get_lt h hx)⟩
theorem FrEq.agree {β' : List Nat} {fr' : Fr} {a : Act} (h : FrEq β fr β' fr') (ha : Agree β fr a) : Agree β' fr' a := fun t x hx => by
  obtain ⟨y, hy, e⟩ := h t x hx
  rw [e]; exact ha t y hy
/-- Slot by slot. -/
theorem FrEq.of_map {β' : List Nat} {fr' : Fr} (h : fr'.map (fun x => (x.1, den β' x.2)) = fr.map (fun x => (x.1, den β x.2))) : FrEq β fr β' fr' := by
  have key : ∀ {fr fr' : Fr}, fr'.map (fun x => (x.1, den β' x.2)) = fr.map (fun x => (x.1, den β x.2)) → ∀ t x, fr'.get t = some x → ∃ y, fr.get t = some y ∧ den β' x = den β y := by
    intro fr
    induction fr with
    | nil => intro fr' h t x hx; cases fr' with
      | nil => simp [Fr.get] at hx
      | cons => simp at h
    | cons p r ih =>
      intro fr' h t x hx
      cases fr' with
      | nil => simp at h
      | cons p' r' =>
        obtain ⟨k, v⟩ := p
        obtain ⟨k', v'⟩ := p'
        simp only [List.map_cons, List.cons.injEq, Prod.mk.injEq] at h
        obtain ⟨⟨rfl, hv⟩, hr⟩ := h
        simp only [Fr.get] at hx ⊢
        cases hb : Nat.beq k' t <;> rw [hb] at hx
        · exact ih hr t x hx
        · simp only [cond_true, Option.some.injEq] at hx ⊢
          subst hx
          exact ⟨v, rfl, hv⟩
  exact key h

/-- The same, slot by slot, in whatever order. -/
def FrAll (β : List Nat) (fr : Fr) (β' : List Nat) : Fr → Prop
  | [] => True
  | (t, x) :: r => (match fr.get t with | some y => den β' x = den β y | none => False) ∧ FrAll β fr β' r
theorem FrEq.of_all {β' : List Nat} : ∀ {fr' : Fr}, FrAll β fr β' fr' → FrEq β fr β' fr'
  | [], _ => fun t x hx => by simp [Fr.get] at hx
  | (k, v) :: r, h => fun t x hx => by
    simp only [Fr.get] at hx
    cases hb : Nat.beq k t <;> rw [hb] at hx
    · exact FrEq.of_all h.2 t x hx
    · simp only [cond_true, Option.some.injEq] at hx
      subst hx
      obtain rfl := Nat.eq_of_beq_eq_true hb
      have h1 := h.1
      split at h1
      · rename_i y hy; exact ⟨y, hy, h1⟩
      · exact h1.elim

def noGd (fr : Fr) : Bool := fr.all fun x => !x.2.isGd
theorem noGd_spec {fr : Fr} (h : noGd fr = true) : GdOk fr := GdOk.noGd fun u v hg => by
  induction fr with
  | nil => simp [Fr.get] at hg
  | cons p r ih =>
    obtain ⟨k, y⟩ := p
    simp only [noGd, List.all_cons, Bool.and_eq_true, Bool.not_eq_true'] at h
    simp only [Fr.get] at hg
    cases hb : Nat.beq k u <;> rw [hb] at hg
    · exact ih h.2 hg
    · simp only [cond_true, Option.some.injEq] at hg; subst hg; exact h.1

/-- A state in other words; what is known of the world may be used. -/
theorem Go.recast (h : ∀ w, Sat cfg.w0 (satH cfg.w0 β H * F) w → ∃ β' fr' H' F', FrEq β fr β' fr' ∧ noGd fr' = true ∧ Sat cfg.w0 (satH cfg.w0 β' H' * F') w ∧ Go P ro f Q cfg ds F' β' fr' H' stk)
    (hs : ∀ β', StkGo P ro f Q cfg β' stk = StkGo P ro f Q cfg β stk) : Go P ro f Q cfg ds F β fr H stk := by
  intro a w hR
  obtain ⟨β', fr', H', F', h1, h2, h3, h4⟩ := h w hR.sat
  rw [← hs β']
  exact h4 a w ⟨hR.size, hR.defers, h1.agree hR.agree, noGd_spec h2, h3⟩

/-- The world is looked at, the state stays. -/
theorem Go.look (h : ∀ w, Sat cfg.w0 (satH cfg.w0 β H * F) w → Go P ro f Q cfg ds F β fr H stk) : Go P ro f Q cfg ds F β fr H stk := fun a w hR => h w hR.sat a w hR
/-- What stands beside, in other words. -/
theorem Go.frame {F' : HP} (h : Ent F F') (hg : Go P ro f Q cfg ds F' β fr H stk) : Go P ro f Q cfg ds F β fr H stk := fun a w hR =>
  hg a w ⟨hR.size, hR.defers, hR.agree, hR.gd, hR.sat.ent (Ent.right h)⟩

/-! ### Special operations -/

/-- What a special operation has to come to. -/
def After (P : Program) (ro : Option Nat) (f : FuncId) (Q : Leave → Act → World → Prop) (cfg : Cfg) (ds : List Deferred) (β : List Nat) (fr : Fr) (dst : Option Nat) (stk : List It) (v : Value) (w' : World) : Prop :=
  ∃ β' fr' H' F' lv, v = den β' lv ∧ LV.isGd lv = false ∧ FrEq β fr β' fr' ∧ noGd fr' = true ∧ Sat cfg.w0 (satH cfg.w0 β' H' * F') w' ∧ Go P ro f Q cfg ds F' β' (putS fr' dst lv) H' stk

theorem Go.special {p : List Nat} {i : Nat} {rest : List Nat} {k : List It} {o : Oper} (ho : (opsOf (sub cfg.c0 p))[i]? = some o) (hg : guardOf fr (opsOf (sub cfg.c0 p)) o = .yes) (hd : okDst cfg.N o.dst = true)
    (h : ∀ a w, Rel cfg ds F β fr H a w → upon P (After P ro f Q cfg ds β fr o.dst (.reg p rest :: k)) ((execOp a.eval o).run P w)) : Go P ro f Q cfg ds F β fr H (.reg p (i :: rest) :: k) := by
  intro a w hR
  refine Goes.op ho (guard_yes hR.agree hg) ?_
  unfold OpGo
  refine upon_mono (fun v w' ⟨β', fr', H', F', lv, h1, h2, h3, h4, h5, h6⟩ => ?_) (h a w hR)
  subst h1
  have hR' : Rel cfg ds F' β' fr' H' a w' := ⟨hR.size, hR.defers, h3.agree hR.agree, noGd_spec h4, h5⟩
  exact h6 _ _ (hR'.putS hd h2)

/-- The call of a Go function: its number and its arguments. -/
def callOf (fr : Fr) (o : Oper) : Option (FuncId × List LV) :=
  match o.op with
  | .call { callee := .value g, args := as, argTypes := _ } => (arg fr none g).bind fun gv => (args fr none as.toList).bind fun l =>
    (match gv with
    | .fn g caps => some (g, l ++ caps)
    | _ => none)
  | _ => none

/-- Function number g has a Go text of its own. -/
def plainFn (P : Program) (g : FuncId) : Bool :=
  match P.funcs[g]? with
  | some fn => fn.body.isSome && !(fn.name == "runtime.NumGoroutine")
  | none => false

theorem callOf_run {o : Oper} {g : FuncId} {l : List LV} {a : Act} {w : World} (ha : Agree β fr a) (hgd : GdOk fr) (h : callOf fr o = some (g, l)) (hp : plainFn P g = true) :
    (execOp a.eval o).run P w = .ok (.enter g (denL β l).toArray) w := by
  unfold callOf at h
  split at h
  · rename_i gv as ts ho
    obtain ⟨gl, h1, h⟩ := Option.bind_eq_some_iff.1 h
    obtain ⟨ls, h2, h⟩ := Option.bind_eq_some_iff.1 h
    split at h
    · rename_i g' caps _
      simp only [Option.some.injEq, Prod.mk.injEq] at h
      obtain ⟨rfl, rfl⟩ := h
      have e1 := arg_spec ha hgd (Cok.none fr) h1
      have e2 : as.map a.eval = (denL β ls).toArray := Array.toList_inj.1 (by rw [Array.toList_map, args_spec ha hgd (Cok.none fr) h2])
      unfold plainFn at hp
      cases hf : P.funcs[g']? with
      | none => rw [hf] at hp; cases hp
      | some fn =>
        rw [hf] at hp
        simp only [Bool.and_eq_true, Bool.not_eq_true'] at hp
        obtain ⟨b1, b2⟩ := hp
        have e3 : (denL β (ls ++ caps)).toArray = (denL β ls).toArray ++ (denL β caps).toArray := by simp [denL_map]
        have : execOp a.eval o = (do let d ← resolve a.eval { callee := .value gv, args := as, argTypes := ts } o.type; invoke d.target d.args) := by unfold execOp; rw [ho]
        rw [this]
        simp only [resolve, e1, e2, den, Deferred.ofValue, Sem.run_bind, Sem.run_pure, Result.andThen, invoke, callFunc, e3]
        have hb : fn.body.isNone = false := by cases hb : fn.body <;> simp_all
        simp [program, Sem.run, hf, b2, hb]
    · cases h
  · cases h

theorem Go.call {p : List Nat} {i : Nat} {rest : List Nat} {k : List It} {o : Oper} {g : FuncId} {l : List LV} (ho : (opsOf (sub cfg.c0 p))[i]? = some o) (hg : guardOf fr (opsOf (sub cfg.c0 p)) o = .yes)
    (hd : okDst cfg.N o.dst = true) (hc : callOf fr o = some (g, l)) (hp : plainFn P g = true)
    (h : ∀ w, Sat cfg.w0 (satH cfg.w0 β H * F) w → Calls P g (denL β l).toArray w fun e w' => ∃ v, e = .returned v ∧ After P ro f Q cfg ds β fr o.dst (.reg p rest :: k) v w') :
    Go P ro f Q cfg ds F β fr H (.reg p (i :: rest) :: k) := by
  refine Go.special ho hg hd fun a w hR => ?_
  rw [callOf_run hR.agree hR.gd hc hp]
  exact h w hR.sat

/-- The plain end of a special operation: blocks more, what the slots say stays as it is said. -/
theorem After.keep {dst : Option Nat} {stk : List It} {w' : World} {γ : List Nat} {H' : Hp} {F' : HP} {lv : LV} {v : Value} (hv : v = den (β ++ γ) lv) (hgd : lv.isGd = false) (hl : fr.lt β.length = true) (hn : noGd fr = true)
    (hs : Sat cfg.w0 (satH cfg.w0 (β ++ γ) H' * F') w') (h : Go P ro f Q cfg ds F' (β ++ γ) (putS fr dst lv) H' stk) : After P ro f Q cfg ds β fr dst stk v w' :=
  ⟨β ++ γ, fr, H', F', lv, hv, hgd, FrEq.append hl, hn, hs, h⟩

/-- Within a region whose order is drawn: the same, and what the loads of the region were told of still holds. -/
theorem Go.specialD {p : List Nat} {m n Z i : Nat} {HS : Hp} {k : List It} {o : Oper} (ho : (opsOf (sub cfg.c0 p))[i]? = some o) (hg : guardOf fr (opsOf (sub cfg.c0 p)) o = .yes) (hd : okDst cfg.N o.dst = true)
    (hl : fr.lt β.length = true) (hH : HS.lt β.length = true)
    (h : ∀ a w, Rel cfg ds F β fr H a w → upon P (fun v w' => ∃ γ H' F' lv, v = den (β ++ γ) lv ∧ LV.isGd lv = false ∧ Sat cfg.w0 (satH cfg.w0 (β ++ γ) H' * F') w' ∧
      (zdone Z (opsOf (sub cfg.c0 p)).size (lst (opsOf (sub cfg.c0 p)).size m) = false → Look cfg.w0 (β ++ γ) HS w') ∧
      Go P ro f Q cfg ds F' (β ++ γ) (putS fr o.dst lv) H' (.dreg p (m ||| 2 ^ i) n Z HS :: k)) ((execOp a.eval o).run P w)) :
    Go P ro f Q cfg ds F β fr H (.dop p m n Z HS i :: k) := by
  intro a w hR
  simp only [StkGo, wop, ho, guard_yes hR.agree hg, if_true]
  unfold OpGo
  refine upon_mono (fun v w' ⟨γ, H', F', lv, h1, h2, h3, h4, h5⟩ => ?_) (h a w hR)
  subst h1
  rw [Look.append hH] at h4
  refine ⟨h4, ?_⟩
  have hR' : Rel cfg ds F' (β ++ γ) fr H' a w' := ⟨hR.size, hR.defers, hR.agree.append hl, hR.gd, h3⟩
  have := h5 _ _ (hR'.putS hd h2)
  simp only [StkGo, ← lst_set] at this
  rw [Look.append hH] at this
  refine this fun hz => h4 ?_
  cases hz2 : zdone Z (opsOf (sub cfg.c0 p)).size (lst (opsOf (sub cfg.c0 p)).size m)
  · rfl
  · exfalso
    have : zdone Z (opsOf (sub cfg.c0 p)).size ((lst (opsOf (sub cfg.c0 p)).size m).setIfInBounds i true) = true := by
      unfold zdone at hz2 ⊢
      rw [List.all_eq_true] at hz2 ⊢
      intro t ht
      have := hz2 t ht
      simp only [Bool.or_eq_true] at this ⊢
      exact this.imp id getD_set_true
    rw [this] at hz; cases hz

theorem Go.callD {p : List Nat} {m n Z i : Nat} {HS : Hp} {k : List It} {o : Oper} {g : FuncId} {l : List LV} (ho : (opsOf (sub cfg.c0 p))[i]? = some o) (hg : guardOf fr (opsOf (sub cfg.c0 p)) o = .yes) (hd : okDst cfg.N o.dst = true)
    (hc : callOf fr o = some (g, l)) (hp : plainFn P g = true) (hl : fr.lt β.length = true) (hH : HS.lt β.length = true)
    (h : ∀ w, Sat cfg.w0 (satH cfg.w0 β H * F) w → Calls P g (denL β l).toArray w fun e w' => ∃ v, e = .returned v ∧ ∃ γ H' F' lv, v = den (β ++ γ) lv ∧ LV.isGd lv = false ∧ Sat cfg.w0 (satH cfg.w0 (β ++ γ) H' * F') w' ∧
      (zdone Z (opsOf (sub cfg.c0 p)).size (lst (opsOf (sub cfg.c0 p)).size m) = false → Look cfg.w0 (β ++ γ) HS w') ∧
      Go P ro f Q cfg ds F' (β ++ γ) (putS fr o.dst lv) H' (.dreg p (m ||| 2 ^ i) n Z HS :: k)) :
    Go P ro f Q cfg ds F β fr H (.dop p m n Z HS i :: k) := by
  refine Go.specialD ho hg hd hl hH fun a w hR => ?_
  rw [callOf_run hR.agree hR.gd hc hp]
  exact h w hR.sat

/-! ### Loops -/

/-- A loop, by a family of states and a measure. -/
theorem Go.loop {ι : Type} (I : ι → HP × List Nat × Fr × Hp) (μ : ι → Nat) {p : List Nat} {k : List It} {c : Code} (hc : sub cfg.c0 p = .loop c) (i0 : ι)
    (h0 : ∀ w, Sat cfg.w0 (satH cfg.w0 β H * F) w → FrEq β fr (I i0).2.1 (I i0).2.2.1 ∧ noGd (I i0).2.2.1 = true ∧ Sat cfg.w0 (satH cfg.w0 (I i0).2.1 (I i0).2.2.2 * (I i0).1) w)
    (round : ∀ i, (∀ j, μ j < μ i → Go P ro f Q cfg ds (I j).1 (I j).2.1 (I j).2.2.1 (I j).2.2.2 (.lp (p ++ [0]) :: k)) →
      Go P ro f Q cfg ds (I i).1 (I i).2.1 (I i).2.2.1 (I i).2.2.2 (.code (p ++ [0]) :: .lp (p ++ [0]) :: k)) : Go P ro f Q cfg ds F β fr H (.code p :: k) := by
  have hsub : sub cfg.c0 (p ++ [0]) = c := by rw [sub_append, hc]; rfl
  have key : ∀ n i, μ i = n → Go P ro f Q cfg ds (I i).1 (I i).2.1 (I i).2.2.1 (I i).2.2.2 (.code (p ++ [0]) :: .lp (p ++ [0]) :: k) := by
    intro n
    induction n using Nat.strongRecOn with
    | _ n ih =>
      intro i hi
      refine round i fun j hj => ?_
      intro a w hR
      have := ih (μ j) (hi ▸ hj) j rfl a w hR
      simp only [StkGo, items, List.map_cons, It.item, hsub] at this ⊢
      exact Goes.inLoop this
  intro a w hR
  obtain ⟨h1, h2, h3⟩ := h0 w hR.sat
  have := key _ i0 rfl a w ⟨hR.size, hR.defers, h1.agree hR.agree, noGd_spec h2, h3⟩
  simp only [StkGo, items, List.map_cons, It.item, hsub, hc] at this ⊢
  exact Goes.loop1 this

/-! ### To enter, to leave -/
def fr0 : Nat → List LV → Fr
  | _, [] => []
  | i, x :: r => (i, x) :: fr0 (i + 1) r

theorem fr0_get {β : List Nat} : ∀ {l : List LV} {i t : Nat} {x : LV}, (fr0 i l).get t = some x → ∃ j, t = i + j ∧ (denL β l)[j]? = some (den β x)
  | [], _, _, _, h => by simp [fr0, Fr.get] at h
  | y :: r, i, t, x, h => by
    simp only [fr0, Fr.get] at h
    cases hb : Nat.beq i t <;> rw [hb] at h
    · obtain ⟨j, rfl, hj⟩ := fr0_get (β := β) h
      exact ⟨j + 1, by omega, by simpa [denL] using hj⟩
    · obtain rfl := Nat.eq_of_beq_eq_true hb
      simp only [cond_true, Option.some.injEq] at h
      subst h
      exact ⟨0, rfl, by simp [denL]⟩

/-- What is asked at a function's end. -/
def RetQ (P : Program) (fn : Func) (R : Ending → World → Prop) : Leave → Act → World → Prop := fun x a w =>
  (∀ id, x ≠ .exit id) ∧ a.defers = [] ∧ ∃ v, (results fn a.tmps).run P w = .ok v w ∧ R (.returned v) w

theorem Calls.enter {fn : Func} {l : List LV} {w : World} {R : Ending → World → Prop} (hf : P.funcs[f]? = some fn) (hb : fn.body = some cfg.c0) (hN : cfg.N = fn.ntmps) (hl : l.length ≤ fn.ntmps) (hgd : noGd (fr0 0 l) = true)
    (hs : Sat cfg.w0 (satH cfg.w0 β H * F) w) (h : Go P none f (RetQ P fn R) cfg [] F β (fr0 0 l) H [.code []]) : Calls P f (denL β l).toArray w R := by
  refine calls_of_goes hf hb ?_
  have hsz : ((denL β l).toArray ++ Array.replicate (fn.ntmps - (denL β l).toArray.size) undef).size = cfg.N := by
    simp [denL_length, hN]; omega
  refine h _ _ ⟨hsz, rfl, fun t x hx => ?_, noGd_spec hgd, hs⟩
  obtain ⟨j, rfl, hj⟩ := fr0_get (β := β) hx
  have hlt : j < (denL β l).length := (List.getElem?_eq_some_iff.1 hj).1
  rw [Nat.zero_add, Array.getElem?_append_left (by simpa using hlt)]
  simpa using hj

/-- The results, where they lie in slots. -/
def resL (fr : Fr) : List ResultVar → Option (List LV)
  | [] => some []
  | .tmp t :: r => (fr.get t).bind fun v => (resL fr r).map fun l => v :: l
  | .cell _ _ :: _ => none
def retV (fr : Fr) (rs : List ResultVar) : Option LV :=
  match resL fr rs with
  | some [v] => some v
  | some l => some (.tup l)
  | none => none

def resF (tmps : Array Value) : ResultVar → Sem Value
  | .tmp t => pure (tmps.getD t undef)
  | .cell ad t => do loadVar t (← asAddr (tmps.getD ad undef))
theorem results_eq (fn : Func) (tmps : Array Value) : results fn tmps = (do let vs ← fn.results.mapM (resF tmps); pure (if h : vs.size = 1 then vs[0] else .tuple vs)) := by
  unfold results
  congr 1

theorem resL_spec {a : Act} {w : World} (ha : Agree β fr a) : ∀ {rs : List ResultVar} {l : List LV}, resL fr rs = some l → (rs.mapM (resF a.tmps)).run P w = .ok (denL β l) w
  | [], _, h => by cases h; simp [denL]
  | .tmp t :: r, l, h => by
    simp only [resL] at h
    obtain ⟨v, h1, h⟩ := Option.bind_eq_some_iff.1 h
    obtain ⟨l', h2, rfl⟩ := Option.map_eq_some_iff.1 h
    have ih := resL_spec (w := w) ha h2
    have hv : a.tmps.getD t undef = den β v := by simp [ha t v h1]
    simp only [List.mapM_cons, Sem.run_bind, resF, Sem.run_pure, Result.andThen, ih, denL, hv]
  | .cell _ _ :: _, _, h => by cases h

theorem leave_ok {fn : Func} {R : Ending → World → Prop} {x : Leave} {s : St} {rv : LV} (hx : ∀ id, x ≠ .exit id) (hr : retV s.fr fn.results.toList = some rv)
    (h : ∀ w, Sat cfg.w0 (satH cfg.w0 β s.H * F) w → R (.returned (den β rv)) w) : AtLeave (RetQ P fn R) cfg [] F β x s := by
  intro a w hR
  refine ⟨hx, hR.defers, den β rv, ?_, h w hR.sat⟩
  unfold retV at hr
  have base : ∀ {l}, resL s.fr fn.results.toList = some l → (results fn a.tmps).run P w = .ok (if h : (denL β l).toArray.size = 1 then (denL β l).toArray[0] else .tuple (denL β l).toArray) w := by
    intro l hl
    have := resL_spec (P := P) (w := w) hR.agree hl
    rw [results_eq, Array.mapM_eq_mapM_toList]
    simp only [Sem.run_bind, Sem.run_map, this, Result.andThen, Sem.run_pure]
  split at hr
  · rename_i v hl
    cases hr
    rw [base hl]; simp [denL]
  · rename_i l hne hl
    cases hr
    rw [base hl]
    have : ¬ (denL β l).toArray.size = 1 := by
      intro h1
      simp only [List.size_toArray, denL_length] at h1
      obtain ⟨v, rfl⟩ := List.length_eq_one_iff.1 h1
      exact hne v rfl
    rw [dif_neg this]; rfl
  · cases hr

end
end Go.E
