/-
  Ranges over functions: the statement, its rounds, 'yield', and the marks that are left for a function's end.
-/
import Derived.Test.YtlgggljlegpaoaaE15
import Derived.RangeFuncRecord
namespace Go.E
open Go.RowKit

section
variable {P : Program} {ro : Option Nat} {f : FuncId} {Q : Leave → Act → World → Prop} {k : List Item} {a : Act} {w w0 : World}

theorem Sat.put {b : Nat} {o : Obj} {F : HP} (o' : Obj) (h : Sat w0 (pt b o * F) w) : Sat w0 (pt b o' * F) (w.putObj b o') :=
  h.set (World.putObj_heap_same (Array.getElem?_eq_some_iff.1 h.get).1) (fun _ hk => World.putObj_heap_other hk) rfl rfl rfl (by simp)

/-! ### A function's end, with marks -/
def LeavesM (P : Program) (fn : Func) (tmps : Array Value) (R : Ending → World → Prop) : List Deferred → World → Prop
  | [], w => ∃ v, (results fn tmps).run P w = .ok v w ∧ R (.returned v) w
  | d :: ds, w => ∃ r w', d.target = .collected r ∧ (Instr.takeDeferred r).run P w = .ok [] w' ∧ LeavesM P fn tmps R ds w'

theorem leavesM_steps {fn : Func} {R : Ending → World → Prop} : ∀ (ds : List Deferred) (w : World) (fr : Frame) (cs : List Frame), fr.mode = .returning → fr.defers = ds → fr.kind = .normal → P.funcs[fr.fn]? = some fn →
    LeavesM P fn fr.tmps R ds w → ∃ e w' fr', R e w' ∧ Comes P (lone fr cs w) (lone fr' cs w') e ∧ fr'.fn = fr.fn ∧ fr'.leaving P w' e
  | [], w, fr, cs, hm, hd, hk, hf, ⟨v, h1, h2⟩ => ⟨.returned v, w, fr, h2, .refl _ _, rfl, hm, hd, hk, fn, hf, h1⟩
  | d :: ds, w, fr, cs, hm, hd, hk, hf, ⟨r, w', h1, h2, h3⟩ => by
    have hs := step_collected (cs := cs) (by rw [hm]; exact nofun) hd h1 h2
    obtain ⟨e, w'', fr', g1, g2, g3, g4⟩ := leavesM_steps ds w' { fr with defers := [] ++ ds } cs hm rfl hk hf h3
    refine ⟨e, w'', fr', g1, ?_, g3, g4⟩
    cases e with
    | returned v => exact Steps.trans (.one hs) g2
    | panicked c => exact Steps.trans (.one hs) g2
    | outgrown => exact Outgrown.of_steps (.one hs) g2

/-- What is asked at a function's end. -/
def RetM (P : Program) (fn : Func) (R : Ending → World → Prop) : Leave → Act → World → Prop := fun x a w => (∀ id, x ≠ .exit id) ∧ LeavesM P fn a.tmps R a.defers w

theorem calls_of_goesM {fn : Func} {c : Code} {args : Array Value} {R : Ending → World → Prop} (hf : P.funcs[f]? = some fn) (hb : fn.body = some c)
    (h : Goes P none f (RetM P fn R) [.code c] { tmps := args ++ Array.replicate (fn.ntmps - args.size) undef, defers := [] } w) : Calls P f args w R := by
  intro cs
  let b : Frame := { (default : Frame) with fn := f, kind := .normal }
  have henter : Frame.enter P f args .normal = b.atR { tmps := args ++ Array.replicate (fn.ntmps - args.size) undef, defers := [] } [.code c] := by
    simp [Frame.enter, Frame.atR, hf, hb, b]
    rfl
  obtain ⟨x, a', w', k, ⟨hx, hl⟩, _, hst⟩ := h b cs rfl rfl rfl
  rw [← henter] at hst
  have fin : ∀ (k : List Item), Steps P (lone (Frame.enter P f args .normal) cs w) (lone { b.atR a' k with mode := .returning } cs w') → ∃ e w' fr, R e w' ∧ Comes P (lone (Frame.enter P f args .normal) cs w) (lone fr cs w') e ∧ fr.fn = f ∧ fr.leaving P w' e := by
    intro k hs
    obtain ⟨e, w'', fr', g1, g2, g3, g4⟩ := leavesM_steps (R := R) a'.defers w' { b.atR a' k with mode := .returning } cs rfl rfl rfl hf hl
    refine ⟨e, w'', fr', g1, ?_, g3, g4⟩
    cases e with
    | returned v => exact Steps.trans hs g2
    | panicked c => exact Steps.trans hs g2
    | outgrown => exact Outgrown.of_steps hs g2
  cases x with
  | fin => exact fin _ (Steps.trans hst (.one (stepR_end rfl)))
  | ret => exact fin _ (Steps.trans hst (.one (stepR_ret rfl)))
  | exit id => exact (hx id rfl).elim

/-! ### The statement -/
/-- The record of a loop. -/
def rec0 (f : FuncId) (T : Array Value) (ps : Array Tmp) (assign body : Code) (r : Nat) (st : LoopState) (pend : Option Code) : Obj :=
  .loop { state := st, pending := pend, fn := f, tmps := T, params := ps, assign := assign, body := body, defers := r }

theorem Goes.rangeFunc {g : Operand} {ps : Array Tmp} {assign body : Code} {f' : FuncId} {caps : Array Value} (hg : a.eval g = .func (.func f') #[] caps) (hp : plainFn P f' = true)
    (h : Calls P f' (#[.func (.yield (w.heap.size + 1)) #[] #[]] ++ caps) ((w.alloc (.deferred (some []))).alloc (rec0 f a.tmps ps assign body w.heap.size .ready none)) fun e w₃ => (∃ v, e = .returned v) ∧
      ∃ st pend, w₃.heap[w.heap.size + 1]? = some (rec0 f a.tmps ps assign body w.heap.size st pend) ∧ st ≠ .busy ∧
        Goes P none f Q ((pend.map Item.code).toList ++ k) { a with defers := { target := .collected w.heap.size, args := #[] } :: a.defers } (w₃.putObj (w.heap.size + 1) (rec0 f a.tmps ps assign body w.heap.size .exhausted pend))) :
    Goes P none f Q (.code (.rangeFunc g ps assign body) :: k) a w := by
  intro b cs hf hk hr
  subst hf
  have he := run_enterLoop_outer (P := P) (w := w) b.fn a.tmps ps assign body
  rw [← hr] at he
  have hres : ∀ w₁ : World, (resolve a.eval (rangeCall g (w.heap.size + 1)) 0).run P w₁ = .ok { target := .fn (.func f') caps, args := #[.func (.yield (w.heap.size + 1)) #[] #[]] } w₁ := by
    intro w₁
    have ec : ∀ v, a.eval (.const v) = v := fun _ => rfl
    simp [resolve, hg, Deferred.ofValue, ec]
  have hinv : ∀ w₁ : World, (invoke (.fn (.func f') caps) #[.func (.yield (w.heap.size + 1)) #[] #[]]).run P w₁ = .ok (.enter f' (#[.func (.yield (w.heap.size + 1)) #[] #[]] ++ caps)) w₁ := by
    intro w₁
    unfold plainFn at hp
    cases hfn : P.funcs[f']? with
    | none => rw [hfn] at hp; cases hp
    | some fn =>
      rw [hfn] at hp
      simp only [Bool.and_eq_true, Bool.not_eq_true'] at hp
      obtain ⟨b1, b2⟩ := hp
      have hb : fn.body.isNone = false := by cases hb : fn.body <;> simp_all
      simp only [invoke, callFunc, Sem.run_bind, Result.andThen]
      simp [program, Sem.run, hfn, b2, hb]
  have henter := stepR_rangeFunc (P := P) (b := b) (a := a) (k := k) (cs := cs) he (hres _) (hinv _)
  obtain ⟨e, w₃, fr, ⟨⟨v, rfl⟩, st, pend, hl, hst, hgo⟩, hsteps, _, hleave⟩ := h (b.atR { a with defers := [{ target := .collected w.heap.size, args := #[] }] ++ a.defers } (.inRangeFunc (w.heap.size + 1) :: k) :: cs)
  have hend := run_endLoop (P := P) hl hst
  obtain ⟨x, a1, w1, k1, hq, hok, hst2⟩ := hgo b cs rfl hk hr
  refine ⟨x, a1, w1, k1, hq, hok, .head henter (Steps.trans hsteps (.head ?_ (.head (stepR_endRangeFunc hend) hst2)))⟩
  rw [← finish_atR_inRangeFunc (w.heap.size + 1) v]
  exact step_leave_returned hleave

/-! ### A round -/
theorem Goes.beginRound {l : Nat} {r : Loop} (hl : w.heap[l]? = some (.loop r)) (hr : r.state = .ready) (h : Goes P (some l) f Q k a (w.putObj l (.loop { r with state := .busy }))) : Goes P (some l) f Q (.beginRound :: k) a w :=
  Goes.by_steps (fun _ _ _ hro => .one (stepR_beginRound hro (run_beginRound hl hr))) h

/-- What is asked at a round's end. -/
def RoundQ (P : Program) (l : Nat) (K : Value → World → Prop) : Leave → Act → World → Prop
  | .fin, _, w => ∃ v w', (Instr.endRound l none).run P w = .ok v w' ∧ K v w'
  | .ret, _, w => ∃ v w', (Instr.endRound l (some .ret)).run P w = .ok v w' ∧ K v w'
  | .exit id, _, w => ∃ v w', (Instr.endRound l (some (.exit id))).run P w = .ok v w' ∧ K v w'

theorem round_of_goes {l : Nat} {tmps : Array Value} {assign body : Code} {K : Value → World → Prop} (h : Goes P (some l) f (RoundQ P l K) [.code assign, .beginRound, .code body] { tmps := tmps, defers := [] } w) :
    Round P l f tmps assign body w K := by
  intro c cs
  let b : Frame := { (default : Frame) with fn := f, kind := .normal, roundOf := some l }
  have hb0 : Frame.round l f tmps assign body .normal = b.atR { tmps := tmps, defers := [] } [.code assign, .beginRound, .code body] := by
    simp [Frame.round, Frame.atR, b]
  obtain ⟨x, a', w', k', hq, hok, hst⟩ := h b (c :: cs) rfl rfl rfl
  rw [← hb0] at hst
  cases x with
  | fin =>
    obtain ⟨v, w'', h1, h2⟩ := hq
    exact ⟨v, w'', h2, Steps.trans hst (.one (stepR_round_end rfl rfl h1))⟩
  | ret =>
    obtain ⟨v, w'', h1, h2⟩ := hq
    exact ⟨v, w'', h2, Steps.trans hst (.one (stepR_round_ret rfl rfl h1))⟩
  | exit id =>
    obtain ⟨v, w'', h1, h2⟩ := hq
    exact ⟨v, w'', h2, Steps.trans hst (.one (stepR_round_exit rfl rfl hok h1))⟩

/-- 'yield' is called: a round. -/
def Yielded (P : Program) (l : Nat) (args : Array Value) (w : World) (K : Value → World → Prop) : Prop := upon P K ((Instr.yield l args).run P w)
theorem Yielded.mono {l : Nat} {args : Array Value} {K K' : Value → World → Prop} (hk : ∀ v w, K v w → K' v w) (h : Yielded P l args w K) : Yielded P l args w K' := upon_mono hk h

end

section
variable {P : Program} {ro : Option Nat} {f : FuncId} {Q : Leave → Act → World → Prop} {cfg : Cfg} {ds : List Deferred} {F : HP}
variable {β : List Nat} {fr : Fr} {H : Hp} {stk : List It}

/-- The slots of a round: those of the loop, with what came. -/
def yfr : Fr → List Nat → List LV → Fr
  | fr, t :: ts, x :: xs => yfr (fr.put t x) ts xs
  | fr, _, _ => fr
theorem Agree.yfr : ∀ {ts : List Nat} {xs : List LV} {fr : Fr} {a : Act}, Agree β fr a → (∀ t ∈ ts, t < a.tmps.size) → Agree β (yfr fr ts xs) { a with tmps := (ts.zip (denL β xs)).foldl (fun tmps x => tmps.setIfInBounds x.1 x.2) a.tmps }
  | [], _, fr, a, h, _ => by cases a; simpa [Go.E.yfr] using h
  | t :: ts, [], fr, a, h, _ => by cases a; simpa [Go.E.yfr, denL] using h
  | t :: ts, x :: xs, fr, a, h, hlt => by
    have h1 := h.put (t := t) (x := x) (hlt t (by simp)) rfl
    have h2 := Agree.yfr (ts := ts) (xs := xs) h1 (fun u hu => by rw [Act.put_size]; exact hlt u (by simp [hu]))
    simpa only [Go.E.yfr, denL, Act.put, List.zip_cons_cons, List.foldl_cons] using h2

/-- A call of 'yield': whose loop it is, what is told. -/
def yieldOf (fr : Fr) (o : Oper) : Option (Nat × List LV) :=
  match o.op with
  | .call { callee := .value g, args := as, argTypes := _ } => (arg fr none g).bind fun gv => (args fr none as.toList).bind fun l =>
    (match gv with
    | .raw (.func (.yield n) ⟨[]⟩ _) => some (n, l)
    | _ => none)
  | _ => none

theorem yieldOf_run {o : Oper} {n : Nat} {l : List LV} {a : Act} {w : World} (ha : Agree β fr a) (hgd : GdOk fr) (h : yieldOf fr o = some (n, l)) :
    (execOp a.eval o).run P w = (Instr.yield n (denL β l).toArray).run P w := by
  unfold yieldOf at h
  split at h
  · rename_i gv as ts ho
    obtain ⟨gl, h1, h⟩ := Option.bind_eq_some_iff.1 h
    obtain ⟨ls, h2, h⟩ := Option.bind_eq_some_iff.1 h
    split at h
    · rename_i n' caps
      simp only [Option.some.injEq, Prod.mk.injEq] at h
      obtain ⟨rfl, rfl⟩ := h
      have e1 := arg_spec ha hgd (Cok.none fr) h1
      have e2 : as.map a.eval = (denL β ls).toArray := Array.toList_inj.1 (by rw [Array.toList_map, args_spec ha hgd (Cok.none fr) h2])
      have : execOp a.eval o = (do let d ← resolve a.eval { callee := .value gv, args := as, argTypes := ts } o.type; invoke d.target d.args) := by unfold execOp; rw [ho]
      rw [this]
      simp [resolve, e1, e2, den, Deferred.ofValue, invoke]
    · cases h
  · cases h

theorem Go.yield {p : List Nat} {i : Nat} {rest : List Nat} {k : List It} {o : Oper} {n : Nat} {l : List LV} (ho : (opsOf (sub cfg.c0 p))[i]? = some o) (hg : guardOf fr (opsOf (sub cfg.c0 p)) o = .yes)
    (hd : okDst cfg.N o.dst = true) (hc : yieldOf fr o = some (n, l))
    (h : ∀ w, Sat cfg.w0 (satH cfg.w0 β H * F) w → Yielded P n (denL β l).toArray w (After P ro f Q cfg ds β fr o.dst (.reg p rest :: k))) :
    Go P ro f Q cfg ds F β fr H (.reg p (i :: rest) :: k) := by
  refine Go.special ho hg hd fun a w hR => ?_
  rw [yieldOf_run hR.agree hR.gd hc]
  exact h w hR.sat

/-- The round of a loop of this function. -/
theorem Yielded.intro {l r : Nat} {T : Array Value} {ps : List Nat} {p : List Nat} {xs : List LV} {w : World} {K : Value → World → Prop} (hT : T.size = cfg.N) (hps : ps.all (fun t => Nat.blt t cfg.N) = true) (hlen : xs.length = ps.length)
    (ha : ∀ ds, Agree β fr { tmps := T, defers := ds }) (hgd : noGd (yfr fr ps xs) = true)
    (hs : Sat cfg.w0 (pt l (rec0 f T ps.toArray (sub cfg.c0 (p ++ [0])) (sub cfg.c0 (p ++ [1])) r .ready none) * (satH cfg.w0 β H * F)) w)
    (h : Go P (some l) f (RoundQ P l K) cfg [] (pt l (rec0 f T ps.toArray (sub cfg.c0 (p ++ [0])) (sub cfg.c0 (p ++ [1])) r .ready none) * F) β (yfr fr ps xs) H [.code (p ++ [0]), .raw .beginRound, .code (p ++ [1])]) :
    Yielded P l (denL β xs).toArray w K := by
  unfold Yielded
  rw [run_yield (r := _) hs.get (by simp [denL_length, hlen])]
  simp only [upon]
  refine round_of_goes ?_
  have hall : ∀ t ∈ ps, t < T.size := fun t ht => by
    have := List.all_eq_true.1 hps t ht
    rw [hT]; simpa [Nat.blt_eq] using this
  have h1 := Agree.yfr (ts := ps) (xs := xs) (ha []) hall
  have e : (ps.toArray.zip (denL β xs).toArray).foldl (fun tmps (t, u) => tmps.setIfInBounds t u) T = (ps.zip (denL β xs)).foldl (fun tmps x => tmps.setIfInBounds x.1 x.2) T := by simp
  have hsz : ((ps.zip (denL β xs)).foldl (fun tmps x => tmps.setIfInBounds x.1 x.2) T).size = cfg.N := by
    rw [← hT]
    have key : ∀ (zs : List (Nat × Value)) (T : Array Value), (zs.foldl (fun tmps x => tmps.setIfInBounds x.1 x.2) T).size = T.size := by
      intro zs
      induction zs with
      | nil => intro T; rfl
      | cons z zs ih => intro T; simp only [List.foldl_cons]; rw [ih]; simp
    exact key _ T
  show Goes P (some l) f (RoundQ P l K) [Item.code (sub cfg.c0 (p ++ [0])), Item.beginRound, Item.code (sub cfg.c0 (p ++ [1]))] { tmps := (ps.toArray.zip (denL β xs).toArray).foldl (fun tmps (t, u) => tmps.setIfInBounds t u) T, defers := [] } w
  rw [e]
  exact h { tmps := _, defers := [] } w ⟨hsz, rfl, h1, noGd_spec hgd, hs.eq (star_left _ _ _)⟩

/-- The loop's record turns busy. -/
theorem Go.beginRound {l r : Nat} {T : Array Value} {ps : Array Nat} {ca cb : Code} {k : List It} (hk : flat k = true)
    (h : Go P (some l) f Q cfg ds (pt l (rec0 f T ps ca cb r .busy none) * F) β fr H k) : Go P (some l) f Q cfg ds (pt l (rec0 f T ps ca cb r .ready none) * F) β fr H (.raw .beginRound :: k) := by
  intro a w hR
  have hs := (hR.sat : Sat cfg.w0 (satH cfg.w0 β H * (pt l (rec0 f T ps ca cb r .ready none) * F)) w).eq (star_left _ _ _)
  refine Goes.beginRound (r := _) hs.get rfl ?_
  have h2 := h a _ ⟨hR.size, hR.defers, hR.agree, hR.gd, (hs.put (rec0 f T ps ca cb r .busy none)).eq (star_left _ _ _)⟩
  exact StkGo.goes hk h2

/-- A round ends: off its end, or by a jump. -/
def jumpOf : Leave → Option Code
  | .fin => none
  | .ret => some .ret
  | .exit id => some (.exit id)
theorem round_end {l r : Nat} {T : Array Value} {ps : Array Nat} {ca cb : Code} {K : Value → World → Prop} {x : Leave} {s : St}
    (h : ∀ w, Sat cfg.w0 (pt l (rec0 f T ps ca cb r (if (jumpOf x).isNone then .ready else .done) (jumpOf x)) * (satH cfg.w0 β s.H * F)) w → K (.bool (jumpOf x).isNone) w) :
    AtLeave (RoundQ P l K) cfg ds (pt l (rec0 f T ps ca cb r .busy none) * F) β x s := by
  intro a w hR
  have hs := (hR.sat : Sat cfg.w0 (satH cfg.w0 β s.H * (pt l (rec0 f T ps ca cb r .busy none) * F)) w).eq (star_left _ _ _)
  have h1 := fun j => run_endRound (P := P) j hs.get
  have h2 := h _ (hs.put _)
  cases x with
  | fin => exact ⟨_, _, h1 _, h2⟩
  | ret => exact ⟨_, _, h1 _, h2⟩
  | exit id => exact ⟨_, _, h1 _, h2⟩

theorem round_end' {l r : Nat} {T : Array Value} {ps : Array Nat} {ca cb : Code} {K : Value → World → Prop} {x : Leave} {s : St}
    (h : ∀ w, Sat cfg.w0 (satH cfg.w0 β s.H * F) w → ∃ G, Sat cfg.w0 (pt l (rec0 f T ps ca cb r .busy none) * G) w ∧ ∀ w', Sat cfg.w0 (pt l (rec0 f T ps ca cb r (if (jumpOf x).isNone then .ready else .done) (jumpOf x)) * G) w' → K (.bool (jumpOf x).isNone) w') :
    AtLeave (RoundQ P l K) cfg ds F β x s := by
  intro a w hR
  obtain ⟨G, hs, hk⟩ := h w hR.sat
  have h1 := fun j => run_endRound (P := P) j hs.get
  have h2 := hk _ (hs.put _)
  cases x with
  | fin => exact ⟨_, _, h1 _, h2⟩
  | ret => exact ⟨_, _, h1 _, h2⟩
  | exit id => exact ⟨_, _, h1 _, h2⟩

/-- The mark of a loop. -/
abbrev mark (r : Nat) : Deferred := { target := .collected r, args := #[] }
def markP (r : Nat) : HP := pt r (.deferred (some []))

/-- The statement: the function that is ranged over, its contract, and how the activation goes on behind it. -/
theorem Go.rangeFunc {g : Operand} {ps : Array Nat} {p : List Nat} {k : List It} {ca cb : Code} {f' : FuncId} {caps : List LV} (hc : sub cfg.c0 p = .rangeFunc g ps ca cb) (hg : opv fr g = some (.fn f' caps)) (hp : plainFn P f' = true) (hk : flat k = true)
    (h : ∀ (l r : Nat) (T : Array Value) (w : World), T.size = cfg.N → (∀ ds, Agree β fr { tmps := T, defers := ds }) →
      Sat cfg.w0 (pt l (rec0 f T ps ca cb r .ready none) * (markP r * (satH cfg.w0 β H * F))) w →
      Calls P f' (#[.func (.yield l) #[] #[]] ++ (denL β caps).toArray) w fun e w' => (∃ v, e = .returned v) ∧ ∃ st pend F' β' fr' H' k', st ≠ .busy ∧ FrEq β fr β' fr' ∧ noGd fr' = true ∧
        Sat cfg.w0 (pt l (rec0 f T ps ca cb r st pend) * (satH cfg.w0 β' H' * F')) w' ∧
        (match pend with
        | none => k' = k
        | some (.exit id) => xto id k = some k'
        | _ => False) ∧
        Go P none f Q cfg (mark r :: ds) (pt l (rec0 f T ps ca cb r .exhausted pend) * F') β' fr' H' k') :
    Go P none f Q cfg ds F β fr H (.code p :: k) := by
  intro a w hR
  simp only [StkGo, items, List.map_cons, It.item, hc]
  have hev := opv_spec hR.agree hg
  simp only [den] at hev
  refine Goes.rangeFunc hev hp ?_
  have hs1 := (hR.sat : Sat cfg.w0 (satH cfg.w0 β H * F) w).alloc (o := .deferred (some []))
  have hs2 := hs1.alloc (o := rec0 f a.tmps ps ca cb w.heap.size .ready none)
  rw [World.size_alloc] at hs2
  refine (h (w.heap.size + 1) w.heap.size a.tmps _ hR.size (fun ds => hR.agree) hs2).mono fun e w' ⟨h1, st, pend, F', β', fr', H', k', h2, h3, h4, h5, h6, h7⟩ => ⟨h1, st, pend, h5.get, h2, ?_⟩
  have h8 := h7 { a with defers := mark w.heap.size :: a.defers } _ ⟨hR.size, by simp [hR.defers], h3.agree hR.agree, noGd_spec h4, (h5.put (rec0 f a.tmps ps ca cb w.heap.size .exhausted pend)).eq (star_left _ _ _)⟩
  split at h6
  · subst h6
    exact StkGo.goes hk h8
  · obtain ⟨g1, g2⟩ := xto_spec (cfg := cfg) h6
    exact Goes.exit g1 (StkGo.goes (g2 hk) h8)
  · exact h6.elim

/-! ### To enter and to leave a function that ranges over functions; 'goto' -/
theorem Calls.enterM {fn : Func} {l : List LV} {w : World} {R : Ending → World → Prop} (hf : P.funcs[f]? = some fn) (hb : fn.body = some cfg.c0) (hN : cfg.N = fn.ntmps) (hl : l.length ≤ fn.ntmps) (hgd : noGd (fr0 0 l) = true)
    (hs : Sat cfg.w0 (satH cfg.w0 β H * F) w) (h : Go P none f (RetM P fn R) cfg [] F β (fr0 0 l) H [.code []]) : Calls P f (denL β l).toArray w R := by
  refine calls_of_goesM hf hb ?_
  have hsz : ((denL β l).toArray ++ Array.replicate (fn.ntmps - (denL β l).toArray.size) undef).size = cfg.N := by
    simp [denL_length, hN]; omega
  refine h _ _ ⟨hsz, rfl, fun t x hx => ?_, noGd_spec hgd, hs⟩
  obtain ⟨j, rfl, hj⟩ := fr0_get (β := β) hx
  have hlt : j < (denL β l).length := (List.getElem?_eq_some_iff.1 hj).1
  rw [Nat.zero_add, Array.getElem?_append_left (by simpa using hlt)]
  simpa using hj

theorem leave_okM {fn : Func} {R : Ending → World → Prop} {x : Leave} {s : St} {rv : LV} {ns : NeedL} (rs : List Nat) (hx : ∀ id, x ≠ .exit id) (hr : retC cfg.w0 P s.fr s.H fn.results.toList = some (rv, ns)) (hn : allP β ns)
    (h : ∀ w, Sat cfg.w0 (satH cfg.w0 β s.H * F) w → R (.returned (den β rv)) w) : AtLeave (RetM P fn R) cfg (rs.map mark) (stars (rs.map markP) * F) β x s := by
  intro a w hR
  refine ⟨hx, ?_⟩
  have key : ∀ (rs : List Nat) (w : World), Sat cfg.w0 (stars (rs.map markP) * (satH cfg.w0 β s.H * F)) w → LeavesM P fn a.tmps R (rs.map mark) w := by
    intro rs
    induction rs with
    | nil =>
      intro w hs
      obtain ⟨_, _, v, h1, h2⟩ := leave_okC (P := P) (F := F) hx hr hn h { a with defers := [] } w ⟨hR.size, rfl, hR.agree, hR.gd, hs.eq (one_mul _)⟩
      exact ⟨v, h1, h2⟩
    | cons r rs ih =>
      intro w hs
      have hs' : Sat cfg.w0 (pt r (.deferred (some [])) * (stars (rs.map markP) * (satH cfg.w0 β s.H * F))) w := hs.eq (star_assoc _ _ _)
      exact ⟨r, _, rfl, run_takeDeferred hs'.get, ih _ (hs'.put (.deferred none)).right⟩
  rw [hR.defers]
  exact key rs w ((hR.sat : Sat cfg.w0 (satH cfg.w0 β s.H * (stars (rs.map markP) * F)) w).eq (star_left _ _ _))

theorem leave_okM0 {fn : Func} {R : Ending → World → Prop} {x : Leave} {s : St} {rv : LV} {ns : NeedL} (hx : ∀ id, x ≠ .exit id) (hr : retC cfg.w0 P s.fr s.H fn.results.toList = some (rv, ns)) (hn : allP β ns)
    (h : ∀ w, Sat cfg.w0 (satH cfg.w0 β s.H * F) w → R (.returned (den β rv)) w) : AtLeave (RetM P fn R) cfg [] F β x s := by
  have := leave_okM (F := F) [] hx hr hn h
  rwa [show stars (([] : List Nat).map markP) * F = F by simp [stars, one_mul]] at this

theorem leave_okM1 {fn : Func} {R : Ending → World → Prop} {x : Leave} {s : St} {rv : LV} {ns : NeedL} {r : Nat} (hx : ∀ id, x ≠ .exit id) (hr : retC cfg.w0 P s.fr s.H fn.results.toList = some (rv, ns)) (hn : allP β ns)
    (h : ∀ w, Sat cfg.w0 (satH cfg.w0 β s.H * F) w → R (.returned (den β rv)) w) : AtLeave (RetM P fn R) cfg [mark r] (markP r * F) β x s := by
  have := leave_okM (F := F) [r] hx hr hn h
  rwa [show stars ([r].map markP) = markP r by simp [stars, mul_one]] at this

theorem Go.goto {p : List Nat} {l : Nat} {k k' : List It} (hc : sub cfg.c0 p = .goto l) (hk : gotoIn l (items cfg k) = some (items cfg k')) (hf : flat k' = true) (h : Go P ro f Q cfg ds F β fr H k') : Go P ro f Q cfg ds F β fr H (.code p :: k) := by
  intro a w hR
  simp only [StkGo, items, List.map_cons, It.item, hc]
  exact Goes.goto hk (StkGo.goes hf (h a w hR))

end
end Go.E
