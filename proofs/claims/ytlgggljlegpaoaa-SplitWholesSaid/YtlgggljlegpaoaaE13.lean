/-
  Rules for built-in functions, for 'append', and for results that lie in memory.
-/
import Derived.Test.YtlgggljlegpaoaaE12
namespace Go.E
open Go.RowKit

section
variable {P : Program} {ro : Option Nat} {f : FuncId} {Q : Leave → Act → World → Prop} {cfg : Cfg} {ds : List Deferred} {F : HP}
variable {β : List Nat} {fr : Fr} {H : Hp} {stk : List It}

/-- The call of a built-in function: which, its types, its arguments. -/
def bltOf (fr : Fr) (o : Oper) : Option (Builtin × Array TypeId × List LV) :=
  match o.op with
  | .call { callee := .builtin b, args := as, argTypes := ts } => (args fr none as.toList).map fun l => (b, ts, l)
  | _ => none

theorem bltOf_run {o : Oper} {b : Builtin} {ts : Array TypeId} {l : List LV} {a : Act} (ha : Agree β fr a) (hgd : GdOk fr) (h : bltOf fr o = some (b, ts, l)) :
    ∃ cs, ∀ w, (execOp a.eval o).run P w = (builtin b ts o.type cs (denL β l).toArray).run P w := by
  unfold bltOf at h
  split at h
  · rename_i b' as ts' ho
    obtain ⟨l', h1, he⟩ := Option.map_eq_some_iff.1 h
    simp only [Prod.mk.injEq] at he
    obtain ⟨rfl, rfl, rfl⟩ := he
    have e2 : as.map a.eval = (denL β l').toArray := Array.toList_inj.1 (by rw [Array.toList_map, args_spec ha hgd (Cok.none fr) h1])
    refine ⟨as.map fun | .const _ => true | _ => false, fun w => ?_⟩
    have e3 : execOp a.eval o = execOp a.eval { o with op := .call { callee := .builtin b', args := as, argTypes := ts' } } := by rw [← ho]
    rw [e3]
    simp only [execOp, resolve, Sem.run_bind, Sem.run_pure, Result.andThen, invoke, e2]
    rfl
  · cases h

/-- A built-in function whose run is known. -/
theorem Go.blt {p : List Nat} {i : Nat} {rest : List Nat} {k : List It} {o : Oper} {b : Builtin} {ts : Array TypeId} {l : List LV} (ho : (opsOf (sub cfg.c0 p))[i]? = some o) (hg : guardOf fr (opsOf (sub cfg.c0 p)) o = .yes)
    (hd : okDst cfg.N o.dst = true) (hc : bltOf fr o = some (b, ts, l))
    (h : ∀ w, Sat cfg.w0 (satH cfg.w0 β H * F) w → ∃ v w', (∀ cs, (builtin b ts o.type cs (denL β l).toArray).run P w = .ok (.value v) w') ∧ After P ro f Q cfg ds β fr o.dst (.reg p rest :: k) v w') :
    Go P ro f Q cfg ds F β fr H (.reg p (i :: rest) :: k) := by
  refine Go.special ho hg hd fun a w hR => ?_
  obtain ⟨cs, hcs⟩ := bltOf_run hR.agree hR.gd hc
  obtain ⟨v, w', h1, h2⟩ := h w hR.sat
  rw [hcs w, h1 cs]
  exact h2

theorem Go.bltD {p : List Nat} {m n Z i : Nat} {HS : Hp} {k : List It} {o : Oper} {b : Builtin} {ts : Array TypeId} {l : List LV} (ho : (opsOf (sub cfg.c0 p))[i]? = some o) (hg : guardOf fr (opsOf (sub cfg.c0 p)) o = .yes) (hd : okDst cfg.N o.dst = true)
    (hl : fr.lt β.length = true) (hH : HS.lt β.length = true) (hc : bltOf fr o = some (b, ts, l))
    (h : ∀ w, Sat cfg.w0 (satH cfg.w0 β H * F) w → ∃ v w', (∀ cs, (builtin b ts o.type cs (denL β l).toArray).run P w = .ok (.value v) w') ∧ ∃ γ H' F' lv, v = den (β ++ γ) lv ∧ LV.isGd lv = false ∧ Sat cfg.w0 (satH cfg.w0 (β ++ γ) H' * F') w' ∧
      (zdone Z (opsOf (sub cfg.c0 p)).size (lst (opsOf (sub cfg.c0 p)).size m) = false → Look cfg.w0 (β ++ γ) HS w') ∧
      Go P ro f Q cfg ds F' (β ++ γ) (putS fr o.dst lv) H' (.dreg p (m ||| 2 ^ i) n Z HS :: k)) :
    Go P ro f Q cfg ds F β fr H (.dop p m n Z HS i :: k) := by
  refine Go.specialD ho hg hd hl hH fun a w hR => ?_
  obtain ⟨cs, hcs⟩ := bltOf_run hR.agree hR.gd hc
  obtain ⟨v, w', h1, h2⟩ := h w hR.sat
  rw [hcs w, h1 cs]
  exact h2

/-- 'append' onto a slice that is owned. -/
theorem Go.append {e : TypeId} {sz : Nat} {base : Option Addr} {n c : Nat} {p : List Nat} {i : Nat} {rest : List Nat} {k : List It} {o : Oper} {t tx : TypeId} {sv xv : LV} {ti : TypeInfo} {z : Value} (m : Nat)
    (ho : (opsOf (sub cfg.c0 p))[i]? = some o) (hg : guardOf fr (opsOf (sub cfg.c0 p)) o = .yes) (hd : okDst cfg.N o.dst = true) (hc : bltOf fr o = some (.append, #[t, tx], [sv, xv]))
    (hv : den β sv = .slice base n c) (ht : P.underlying t = some (.slice e)) (hi : P.info? e = some ti) (hz : ti.zero = some z) (hsz : ti.size = sz) (hzs : z.cells.size = sz) (hn : noGd fr = true)
    (h : ∀ w, Sat cfg.w0 (satH cfg.w0 β H * F) w → ∃ l news F1 H1, Sat cfg.w0 (own e sz base n c l * (satH cfg.w0 β H1 * F1)) w ∧ Src P sz tx (den β xv) m news w ∧ (n + m) * ti.bytes ≤ 140737488355328 ∧ n + m ≤ 4611686018427387904 ∧
      ∀ base' c', Go P ro f Q cfg ds (own e sz base' (n + m) c' (l ++ news) * F1) β (putS fr o.dst (.raw (.slice base' (n + m) c'))) H1 (.reg p rest :: k)) :
    Go P ro f Q cfg ds F β fr H (.reg p (i :: rest) :: k) := by
  refine Go.blt ho hg hd hc fun w hs => ?_
  obtain ⟨l, news, F1, H1, h1, h2, h3, h4, h5⟩ := h w hs
  obtain ⟨base', c', w', r1, r2⟩ := own_append (ty := o.type) ht hi hz hsz hzs h1 h2 h3 h4
  refine ⟨_, w', fun cs => ?_, β, fr, H1, own e sz base' (n + m) c' (l ++ news) * F1, .raw (.slice base' (n + m) c'), rfl, rfl, FrEq.refl β fr, hn, ?_, h5 base' c'⟩
  · simp only [builtin, denL, hv]
    simp [r1, den]
  · exact r2.eq (star_left _ _ _)

theorem Go.appendD {e : TypeId} {sz : Nat} {base : Option Addr} {n c : Nat} {p : List Nat} {i q nn Z : Nat} {HS : Hp} {k : List It} {o : Oper} {t tx : TypeId} {sv xv : LV} {ti : TypeInfo} {z : Value} (m : Nat)
    (ho : (opsOf (sub cfg.c0 p))[i]? = some o) (hg : guardOf fr (opsOf (sub cfg.c0 p)) o = .yes) (hd : okDst cfg.N o.dst = true) (hc : bltOf fr o = some (.append, #[t, tx], [sv, xv]))
    (hv : den β sv = .slice base n c) (ht : P.underlying t = some (.slice e)) (hi : P.info? e = some ti) (hz : ti.zero = some z) (hsz : ti.size = sz) (hzs : z.cells.size = sz)
    (hl : fr.lt β.length = true) (hH : HS.lt β.length = true)
    (h : ∀ w, Sat cfg.w0 (satH cfg.w0 β H * F) w → ∃ l news F1 H1, Sat cfg.w0 (own e sz base n c l * (satH cfg.w0 β H1 * F1)) w ∧ Src P sz tx (den β xv) m news w ∧ (n + m) * ti.bytes ≤ 140737488355328 ∧ n + m ≤ 4611686018427387904 ∧
      (H1 = HS ∨ zdone Z (opsOf (sub cfg.c0 p)).size (lst (opsOf (sub cfg.c0 p)).size q) = true) ∧
      ∀ base' c', Go P ro f Q cfg ds (own e sz base' (n + m) c' (l ++ news) * F1) β (putS fr o.dst (.raw (.slice base' (n + m) c'))) H1 (.dreg p (q ||| 2 ^ i) nn Z HS :: k)) :
    Go P ro f Q cfg ds F β fr H (.dop p q nn Z HS i :: k) := by
  refine Go.bltD ho hg hd hl hH hc fun w hs => ?_
  obtain ⟨l, news, F1, H1, h1, h2, h3, h4, hk, h5⟩ := h w hs
  obtain ⟨base', c', w', r1, r2⟩ := own_append (ty := o.type) ht hi hz hsz hzs h1 h2 h3 h4
  refine ⟨_, w', fun cs => ?_, [], H1, own e sz base' (n + m) c' (l ++ news) * F1, .raw (.slice base' (n + m) c'), rfl, rfl, ?_, fun hz => ?_, ?_⟩
  · simp only [builtin, denL, hv]
    simp [r1, den]
  · rw [List.append_nil]
    exact r2.eq (star_left _ _ _)
  · rw [List.append_nil]
    rcases hk with rfl | hk
    · exact HSat.look (F := own e sz base' (n + m) c' (l ++ news) * F1) (r2.eq (star_left _ _ _))
    · rw [hk] at hz; cases hz
  · rw [List.append_nil]; exact h5 base' c'

/-- A call within a drawn region, all loads of which are done. -/
theorem Go.callZ {p : List Nat} {m n Z i : Nat} {HS : Hp} {k : List It} {o : Oper} {g : FuncId} {l : List LV} (ho : (opsOf (sub cfg.c0 p))[i]? = some o) (hg : guardOf fr (opsOf (sub cfg.c0 p)) o = .yes) (hd : okDst cfg.N o.dst = true)
    (hc : callOf fr o = some (g, l)) (hp : plainFn P g = true) (hl : fr.lt β.length = true) (hH : HS.lt β.length = true) (hzd : zdone Z (opsOf (sub cfg.c0 p)).size (lst (opsOf (sub cfg.c0 p)).size m) = true)
    (h : ∀ w, Sat cfg.w0 (satH cfg.w0 β H * F) w → Calls P g (denL β l).toArray w fun e w' => ∃ v, e = .returned v ∧ ∃ γ H' F' lv, v = den (β ++ γ) lv ∧ LV.isGd lv = false ∧ Sat cfg.w0 (satH cfg.w0 (β ++ γ) H' * F') w' ∧
      Go P ro f Q cfg ds F' (β ++ γ) (putS fr o.dst lv) H' (.dreg p (m ||| 2 ^ i) n Z HS :: k)) :
    Go P ro f Q cfg ds F β fr H (.dop p m n Z HS i :: k) :=
  Go.callD ho hg hd hc hp hl hH fun w hs => (h w hs).mono fun _ _ ⟨v, e1, γ, H', F', lv, e2, e3, e4, e5⟩ => ⟨v, e1, γ, H', F', lv, e2, e3, e4, (fun hz => by rw [hzd] at hz; cases hz), e5⟩

/-- What a slice in a block yields to 'append'. -/
theorem Src.of_block {tx e' : TypeId} {sz b off n c : Nat} {cs : Array Value} {ty : TypeId} {fz : Nat × Nat} {news : List Value} {w : World} (hk : P.underlying tx = some (.slice e')) (hb : w.heap[b]? = some (.cells cs ty fz))
    (hn : news.length = n * sz) (hc : ∀ j u, news[j]? = some u → cs[off + j]? = some u) (h1 : ∀ u ∈ news, Value.one u = true) : Src P sz tx (.slice (some ⟨b, off, none⟩) n c) n news w :=
  Src.ofSlice w hk _ n c news hn (fun j u hj => by rw [Addr.add_lit, cell_of_heap hb]; exact hc j u hj) (fun u hu => (one_oneCell u).symm.trans (h1 u hu))

/-! ### Results that lie in memory -/
def resC (w0 : World) (P : Program) (fr : Fr) (H : Hp) : List ResultVar → Option (List LV × NeedL)
  | [] => some ([], [])
  | .tmp t :: r => (fr.get t).bind fun v => (resC w0 P fr H r).map fun (l, ns) => (v :: l, ns)
  | .cell t ty :: r => (fr.get t).bind fun x => (loadL w0 P H [] ty x).bind fun (v, ms, _) => (resC w0 P fr H r).map fun (l, ns) => (v :: l, ms ++ ns)
def retC (w0 : World) (P : Program) (fr : Fr) (H : Hp) (rs : List ResultVar) : Option (LV × NeedL) :=
  match resC w0 P fr H rs with
  | some ([v], ns) => some (v, ns)
  | some (l, ns) => some (.tup l, ns)
  | none => none

theorem loadVar_of_loadAt {t : TypeId} {x : LV} {v : Value} {w : World} {H : Hp} {orc : List LV} {y : LV × NeedL × List LV} (hl : loadL cfg.w0 P H orc t x = some y) (h : (Instr.loadAt t (den β x)).run P w = .ok v w) :
    ((do loadVar t (← asAddr (den β x))) : Sem Value).run P w = .ok v w := by
  unfold loadL at hl
  split at hl
  · simpa [Instr.loadAt, Instr.sureAddr, den, asAddr] using h
  · simpa [Instr.loadAt, Instr.sureAddr, den, asAddr] using h
  · cases hl

theorem resC_spec {a : Act} {w : World} (ha : Agree β fr a) (hs : HSat cfg.w0 β H F w) : ∀ {rs : List ResultVar} {l : List LV} {ns : NeedL}, resC cfg.w0 P fr H rs = some (l, ns) → allP β ns → (rs.mapM (resF a.tmps)).run P w = .ok (denL β l) w
  | [], _, _, h, _ => by cases h; simp [denL]
  | .tmp t :: r, l, ns, h, hn => by
    simp only [resC] at h
    obtain ⟨v, h1, h⟩ := Option.bind_eq_some_iff.1 h
    obtain ⟨⟨l', ns'⟩, h2, he⟩ := Option.map_eq_some_iff.1 h
    simp only [Prod.mk.injEq] at he
    obtain ⟨rfl, rfl⟩ := he
    have ih := resC_spec ha hs h2 hn
    have hv : a.tmps.getD t undef = den β v := by simp [ha t v h1]
    simp only [List.mapM_cons, Sem.run_bind, resF, Sem.run_pure, Result.andThen, ih, denL, hv]
  | .cell t ty :: r, l, ns, h, hn => by
    simp only [resC] at h
    obtain ⟨x, h1, h⟩ := Option.bind_eq_some_iff.1 h
    obtain ⟨⟨v, ms, orc'⟩, h3, h⟩ := Option.bind_eq_some_iff.1 h
    obtain ⟨⟨l', ns'⟩, h2, he⟩ := Option.map_eq_some_iff.1 h
    simp only [Prod.mk.injEq] at he
    obtain ⟨rfl, rfl⟩ := he
    rw [allP_append] at hn
    have ih := resC_spec ha hs h2 hn.2
    have hv : a.tmps.getD t undef = den β x := by simp [ha t x h1]
    have hl := loadVar_of_loadAt (cfg := cfg) h3 (loadL_spec hs.look h3 hn.1)
    have hl' : (resF a.tmps (.cell t ty)).run P w = .ok (den β v) w := by simp only [resF, hv]; exact hl
    simp only [List.mapM_cons, Sem.run_bind, hl', Sem.run_pure, Result.andThen, ih, denL]

theorem leave_okC {fn : Func} {R : Ending → World → Prop} {x : Leave} {s : St} {rv : LV} {ns : NeedL} (hx : ∀ id, x ≠ .exit id) (hr : retC cfg.w0 P s.fr s.H fn.results.toList = some (rv, ns)) (hn : allP β ns)
    (h : ∀ w, Sat cfg.w0 (satH cfg.w0 β s.H * F) w → R (.returned (den β rv)) w) : AtLeave (RetQ P fn R) cfg [] F β x s := by
  intro a w hR
  refine ⟨hx, hR.defers, den β rv, ?_, h w hR.sat⟩
  unfold retC at hr
  have base : ∀ {l ns}, resC cfg.w0 P s.fr s.H fn.results.toList = some (l, ns) → allP β ns → (results fn a.tmps).run P w = .ok (if h : (denL β l).toArray.size = 1 then (denL β l).toArray[0] else .tuple (denL β l).toArray) w := by
    intro l ns hl hn
    have := resC_spec (P := P) (w := w) hR.agree hR.sat hl hn
    rw [results_eq, Array.mapM_eq_mapM_toList]
    simp only [Sem.run_bind, Sem.run_map, this, Result.andThen, Sem.run_pure]
  split at hr
  · rename_i v ns' hl
    cases hr
    rw [base hl hn]; simp [denL]
  · rename_i l ns' hne hl
    cases hr
    rw [base hl hn]
    have : ¬ (denL β l).toArray.size = 1 := by
      intro h1
      simp only [List.size_toArray, denL_length] at h1
      obtain ⟨v, rfl⟩ := List.length_eq_one_iff.1 h1
      exact hne v rfl
    rw [dif_neg this]; rfl
  · cases hr

end
end Go.E
