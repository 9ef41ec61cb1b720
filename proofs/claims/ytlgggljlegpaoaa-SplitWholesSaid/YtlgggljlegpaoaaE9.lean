/-
  'run_sound': what is shown of the places at which 'run' stops is shown of the state from which it began.
-/
import Derived.Test.YtlgggljlegpaoaaE8
namespace Go.E

section
variable {β : List Nat} {fr : Fr} {a : Act} {w : World} {ops : Array Oper}

/-! ### Frames -/
theorem Fr.get_keep1 {l : List Nat} {u : Nat} {v : LV} : ∀ {fr : Fr}, (fr.keep1 l).get u = some v → fr.get u = some v
  | [], h => by simp [Fr.keep1, Fr.get] at h
  | (k, y) :: r, h => by
    simp only [Fr.keep1] at h
    cases hk : mem l k <;> rw [hk] at h
    · simp only [cond_false] at h
      have ih := Fr.get_keep1 h
      simp only [Fr.get]
      cases hu : Nat.beq k u
      · exact ih
      · exfalso
        obtain rfl := Nat.eq_of_beq_eq_true hu
        have : ∀ {fr : Fr}, (fr.keep1 l).get k = none := by
          intro fr
          induction fr with
          | nil => rfl
          | cons x r ih =>
            obtain ⟨k', y'⟩ := x
            simp only [Fr.keep1]
            cases hk' : mem l k'
            · exact ih
            · simp only [cond_true, Fr.get]
              cases hb : Nat.beq k' k
              · exact ih
              · obtain rfl := Nat.eq_of_beq_eq_true hb
                rw [hk] at hk'; cases hk'
        rw [this] at h; cases h
    · simp only [cond_true, Fr.get] at h
      simp only [Fr.get]
      cases hu : Nat.beq k u <;> rw [hu] at h
      · exact Fr.get_keep1 h
      · exact h

theorem Agree.plain (h : Agree β fr a) : Agree β fr.plain a := fun t v hg => h t v (Fr.get_plain hg).2
theorem Agree.keep (h : Agree β fr a) (l : List Nat) : Agree β (fr.keep l) a := fun t v hg => h t v (Fr.get_plain (Fr.get_keep1 hg)).2
theorem GdOk.keep (fr : Fr) (l : List Nat) : GdOk (fr.keep l) := GdOk.noGd fun _ _ hg => (Fr.get_plain (Fr.get_keep1 hg)).1

/-- What the guard's slot truly holds. -/
theorem cond_true_slot {v : LV} {want : Bool} (h : condOf v want = some true) : den β v = .bool want := by
  unfold condOf at h
  split at h <;> simp only [Option.some.injEq, reduceCtorEq] at h
  · rename_i b; cases b <;> cases want <;> simp_all [den]
  · rename_i b; cases b <;> cases want <;> simp_all [den]
  · rename_i c b; cases c <;> cases b <;> cases want <;> simp_all [den]
  · rename_i c b; cases c <;> cases b <;> cases want <;> simp_all [den]

theorem wanted_of {o : Oper} {j : Nat} {want : Bool} {t : Nat} {v : LV} {c : Bool} (ha : Agree β fr a) (hg : o.guard = some (j, want)) (ht : (ops[j]?).bind (·.dst) = some t) (hv : fr.get t = some v)
    (hc : condOf v want = some c) : Region.wanted o (yielded ops a.tmps) = c := by
  have hs := ha t v hv
  simp only [Region.wanted, hg, yielded, ht, Option.bind_some, hs]
  unfold condOf at hc
  split at hc <;> simp only [Option.some.injEq, reduceCtorEq] at hc <;> subst hc
  · rename_i b; cases b <;> cases want <;> simp [den]
  · rename_i b; cases b <;> cases want <;> simp [den]
  · rename_i c b; cases c <;> cases b <;> cases want <;> simp [den, undef]
  · rename_i c b; cases c <;> cases b <;> cases want <;> simp [den, undef]

theorem guard_yes {o : Oper} (ha : Agree β fr a) (h : guardOf fr ops o = .yes) : Region.wanted o (yielded ops a.tmps) = true := by
  unfold guardOf at h
  split at h
  · rename_i hg; simp [Region.wanted, hg]
  · rename_i j want hg
    split at h
    · rename_i t ht
      split at h
      · rename_i b hv
        cases hb : eqb b want <;> rw [hb] at h
        · cases h
        · obtain rfl := eqb_spec hb
          exact wanted_of ha hg ht hv (by cases b <;> rfl)
      · split at h <;> cases h
      · cases h
    · cases h
theorem guard_no {o : Oper} (ha : Agree β fr a) (h : guardOf fr ops o = .no) : Region.wanted o (yielded ops a.tmps) = false := by
  unfold guardOf at h
  split at h
  · cases h
  · rename_i j want hg
    split at h
    · rename_i t ht
      split at h
      · rename_i b hv
        cases hb : eqb b want <;> rw [hb] at h
        · refine wanted_of ha hg ht hv ?_
          cases b <;> cases want <;> simp_all [eqb, condOf]
        · cases h
      · split at h <;> cases h
      · cases h
    · cases h
theorem guard_sym {o : Oper} {c : Bool} {t : Nat} {want : Bool} (ha : Agree β fr a) (h : guardOf fr ops o = .sym c t want) :
    Region.wanted o (yielded ops a.tmps) = c ∧ ∃ v, fr.get t = some v ∧ condOf v want = some c := by
  unfold guardOf at h
  split at h
  · cases h
  · rename_i j want' hg
    split at h
    · rename_i t' ht
      split at h
      · rename_i b hv
        cases hb : eqb b want' <;> rw [hb] at h <;> cases h
      · rename_i v _ hv
        split at h
        · rename_i c' hc
          simp only [Gd.sym.injEq] at h
          obtain ⟨rfl, rfl, rfl⟩ := h
          exact ⟨wanted_of ha hg ht hv hc, v, hv, hc⟩
        · cases h
      · cases h
    · cases h

theorem Fr.get_opens {t u : Nat} {want : Bool} {v : LV} : ∀ {fr : Fr}, (fr.opens t want).get u = some v → v.isGd = false ∧ (fr.get u = some v ∨ ∃ c, fr.get u = some (.gd t want c v))
  | [], h => by simp [Fr.opens, Fr.get] at h
  | (k, y) :: r, h => by
    have drop : (Fr.delk (Fr.opens t want r) k).get u = some v → v.isGd = false ∧ (Fr.get ((k, y) :: r) u = some v ∨ ∃ c, Fr.get ((k, y) :: r) u = some (.gd t want c v)) := fun h => by
      obtain ⟨h1, h2⟩ := Fr.get_delk h
      obtain ⟨h3, h4⟩ := Fr.get_opens h2
      have : Nat.beq k u = false := by
        cases hb : Nat.beq k u
        · rfl
        · exact absurd (Nat.eq_of_beq_eq_true hb).symm h1
      simp only [Fr.get, this, cond_false]
      exact ⟨h3, h4⟩
    simp only [Fr.opens] at h
    split at h
    · rename_i t' w' c' x
      cases hb : (Nat.beq t' t && eqb w' want) && !x.isGd <;> rw [hb] at h
      · exact drop h
      · simp only [cond_true, Fr.get] at h
        simp only [Bool.and_eq_true, Bool.not_eq_true'] at hb
        obtain rfl := Nat.eq_of_beq_eq_true hb.1.1
        obtain rfl := eqb_spec hb.1.2
        simp only [Fr.get]
        cases hu : Nat.beq k u <;> rw [hu] at h
        · exact Fr.get_opens h
        · simp only [cond_true, Option.some.injEq] at h
          subst h
          exact ⟨hb.2, .inr ⟨c', rfl⟩⟩
    · rename_i hne
      simp only [Fr.get] at h ⊢
      cases hu : Nat.beq k u <;> rw [hu] at h
      · exact Fr.get_opens h
      · simp only [cond_true, Option.some.injEq] at h
        subst h
        exact ⟨by cases y <;> first | rfl | exact absurd rfl (hne _ _ _ _), .inl rfl⟩

theorem Agree.opens (h : Agree β fr a) (hg : GdOk fr) {t : Nat} {want : Bool} {v : LV} (hv : fr.get t = some v) (hc : condOf v want = some true) : Agree β (fr.opens t want) a := by
  intro u x hx
  obtain ⟨_, h1 | ⟨c, h1⟩⟩ := Fr.get_opens hx
  · exact h u x h1
  · obtain ⟨y, hy, hy'⟩ := hg _ _ _ _ _ h1
    rw [hv] at hy; cases hy
    rw [hc] at hy'; cases hy'
    have := h u _ h1
    simpa [den] using this

/-- What is put where it lies already. -/
theorem Agree.putSame (h : Agree β fr a) {t : Nat} {x : LV} (hx : a.tmps[t]? = some (den β x)) : Agree β (fr.put t x) a := by
  intro u y hg
  simp only [Fr.put, Fr.get] at hg
  cases hu : Nat.beq t u <;> rw [hu] at hg
  · exact h u y (Fr.get_del hg).2
  · simp only [cond_true, Option.some.injEq] at hg
    obtain rfl := Nat.eq_of_beq_eq_true hu
    subst hg; exact hx

theorem agree_litT (h : Agree β fr a) (hg : GdOk fr) {t : Nat} {want : Bool} {v : LV} (hv : fr.get t = some v) (hc : condOf v want = some true) : Agree β (litT fr t want) a ∧ GdOk (litT fr t want) := by
  refine ⟨(h.opens hg hv hc).putSame ?_, GdOk.put (GdOk.noGd fun u x hx => (Fr.get_opens hx).1) rfl⟩
  rw [h t v hv, cond_true_slot hc]; rfl
theorem agree_litF (h : Agree β fr a) {t : Nat} {want : Bool} {v : LV} (hv : fr.get t = some v) (hc : condOf v want = some false) : Agree β (litF fr t want) a ∧ GdOk (litF fr t want) := by
  unfold litF
  split
  · rename_i b hb
    rw [hb] at hv; cases hv
    refine ⟨h.plain.putSame ?_, GdOk.put (GdOk.plain fr) rfl⟩
    rw [h t _ hb]
    cases b <;> cases want <;> simp_all [den, condOf]
  · exact ⟨h.plain.del t, (GdOk.plain fr).del t⟩

end

/-! ### States -/
section
variable {P : Program} {ro : Option Nat} {f : FuncId} {Q : Leave → Act → World → Prop} {cfg : Cfg} {ds : List Deferred} {F : HP}

structure Rel (cfg : Cfg) (ds : List Deferred) (F : HP) (β : List Nat) (fr : Fr) (H : Hp) (a : Act) (w : World) : Prop where
  size : a.tmps.size = cfg.N
  defers : a.defers = ds
  agree : Agree β fr a
  gd : GdOk fr
  sat : HSat cfg.w0 β H F w

variable {β : List Nat} {fr fr' : Fr} {H : Hp} {a : Act} {w : World} {ops : Array Oper}

theorem Rel.frame (h : Rel cfg ds F β fr H a w) (ha : Agree β fr' a) (hg : GdOk fr') : Rel cfg ds F β fr' H a w := ⟨h.size, h.defers, ha, hg, h.sat⟩
theorem Rel.keep (h : Rel cfg ds F β fr H a w) (l : List Nat) : Rel cfg ds F β (fr.keep l) H a w := h.frame (h.agree.keep l) (GdOk.keep fr l)

theorem Rel.putS (h : Rel cfg ds F β fr H a w) {dst : Option Nat} (hd : okDst cfg.N dst = true) {v : LV} (hv : v.isGd = false) : Rel cfg ds F β (putS fr dst v) H (a.put dst (den β v)) w := by
  refine ⟨by rw [Act.put_size]; exact h.size, by rw [Act.put_defers']; exact h.defers, ?_, ?_, h.sat⟩
  · cases dst with
    | none => exact h.agree
    | some t => exact h.agree.put (by rw [h.size]; simpa [okDst, Nat.blt_eq] using hd) rfl
  · cases dst with
    | none => exact h.gd
    | some t => exact h.gd.put hv
theorem Rel.delS (h : Rel cfg ds F β fr H a w) (dst : Option Nat) (u : Value) : Rel cfg ds F β (delS fr dst) H (a.put dst u) w := by
  refine ⟨by rw [Act.put_size]; exact h.size, by rw [Act.put_defers']; exact h.defers, ?_, ?_, h.sat⟩
  · cases dst with
    | none => exact h.agree
    | some t => exact h.agree.putDel t u
  · cases dst with
    | none => exact h.gd
    | some t => exact h.gd.del t
theorem Rel.putGd (h : Rel cfg ds F β fr H a w) {dst : Option Nat} (hd : okDst cfg.N dst = true) {t : Nat} {want c : Bool} {y v : LV} (hk : okG fr (some (t, want, c)) dst = true) (hy : fr.get t = some y) (hc : condOf y want = some c) :
    Rel cfg ds F β (Go.E.putS fr dst (.gd t want c v)) H (a.put dst (den β (.gd t want c v))) w := by
  refine ⟨by rw [Act.put_size]; exact h.size, by rw [Act.put_defers']; exact h.defers, ?_, ?_, h.sat⟩
  · cases dst with
    | none => exact h.agree
    | some t => exact h.agree.put (by rw [h.size]; simpa [okDst, Nat.blt_eq] using hd) rfl
  · cases dst with
    | none => exact h.gd
    | some d =>
      simp only [okG, Bool.and_eq_true, Bool.not_eq_true'] at hk
      exact h.gd.putGd hk.1 (Nat.ne_of_beq_eq_false hk.2) hy hc

theorem lst_get (n m j : Nat) : (lst n m)[j]? = if j < n then some (m.testBit j) else none := by
  simp only [lst, Array.getElem?_map]
  by_cases h : j < n <;> simp [h]
theorem lst_set (n m i : Nat) : (lst n m).setIfInBounds i true = lst n (m ||| 2 ^ i) := by
  apply Array.ext_getElem?
  intro j
  rw [Array.getElem?_setIfInBounds, lst_get, lst_get]
  have hs : (lst n m).size = n := by simp [lst]
  rw [hs, Nat.testBit_or, Nat.testBit_two_pow]
  by_cases hij : i = j
  · subst hij; by_cases hi : i < n <;> simp [hi]
  · simp [hij]
theorem lst_zero (n : Nat) : lst n 0 = Array.replicate n false := by
  apply Array.ext
  · simp [lst]
  · intro j h1 h2; simp [lst]

theorem dcB_spec {listed : Array Bool} (h : dcB ops listed = true) : Dc ops listed := by
  intro j o hj ho e he hb
  unfold dcB at h
  rw [List.all_eq_true] at h
  have hlt : j < ops.size := (Array.getElem?_eq_some_iff.1 ho).1
  have := h j (by simpa using hlt)
  simp only [hj, Bool.not_true, Bool.false_or, ho, List.all_eq_true] at this
  have := this e (by simpa using he)
  simpa [hb] using this

theorem Look.append {w0 : World} {γ : List Nat} {HS : Hp} (h : HS.lt β.length = true) : Look w0 (β ++ γ) HS = Look w0 β HS := by
  have get_lt : ∀ {H : Hp} {i : Nat} {lo : LO}, H.lt β.length = true → H.get i = some lo → Nat.blt i β.length = true ∧ lo.lt β.length = true := by
    intro H
    induction H with
    | nil => intro i lo _ hg; simp [Hp.get] at hg
    | cons x r ih =>
      obtain ⟨k, v⟩ := x
      intro i lo hl hg
      simp only [Hp.lt, Bool.and_eq_true] at hl
      simp only [Hp.get] at hg
      cases hk : Nat.beq k i <;> rw [hk] at hg
      · exact ih hl.2.2 hg
      · simp only [cond_true, Option.some.injEq] at hg
        obtain rfl := Nat.eq_of_beq_eq_true hk
        subst hg
        exact ⟨hl.1, hl.2.1⟩
  funext w
  apply propext
  constructor
  · intro ⟨h1, h2, h3⟩
    refine ⟨fun i lo hg hlo => ?_, fun i hg => ?_, h3⟩
    · obtain ⟨l1, l2⟩ := get_lt h hg
      have := h1 i lo hg hlo
      rwa [bk_append l1, denO_append l2] at this
    · obtain ⟨l1, _⟩ := get_lt h hg
      have := h2 i hg
      rwa [bk_append l1] at this
  · intro ⟨h1, h2, h3⟩
    refine ⟨fun i lo hg hlo => ?_, fun i hg => ?_, h3⟩
    · obtain ⟨l1, l2⟩ := get_lt h hg
      rw [bk_append l1, denO_append l2]
      exact h1 i lo hg hlo
    · obtain ⟨l1, _⟩ := get_lt h hg
      rw [bk_append l1]
      exact h2 i hg

def items (cfg : Cfg) (k : List It) : List Item := k.map (It.item cfg.c0)

/-- What is to be shown of a state's list of what is left to do. -/
def StkGo (P : Program) (ro : Option Nat) (f : FuncId) (Q : Leave → Act → World → Prop) (cfg : Cfg) (β : List Nat) (stk : List It) (a : Act) (w : World) : Prop :=
  match stk with
  | .dop p m n Z HS i :: k =>
    wop P (opsOf (sub cfg.c0 p)) i (fun a' w' => (zdone Z (opsOf (sub cfg.c0 p)).size (lst (opsOf (sub cfg.c0 p)).size m) = false → Look cfg.w0 β HS w') ∧
      Two P (opsOf (sub cfg.c0 p)) Z (Look cfg.w0 β HS) (Goes P ro f Q (items cfg k)) n ((lst (opsOf (sub cfg.c0 p)).size m).setIfInBounds i true) a' w') a w
  | .dreg p m n Z HS :: k => (zdone Z (opsOf (sub cfg.c0 p)).size (lst (opsOf (sub cfg.c0 p)).size m) = false → Look cfg.w0 β HS w) →
      Two P (opsOf (sub cfg.c0 p)) Z (Look cfg.w0 β HS) (Goes P ro f Q (items cfg k)) n (lst (opsOf (sub cfg.c0 p)).size m) a w
  | k => Goes P ro f Q (items cfg k) a w

def flat : List It → Bool
  | [] => true
  | .dreg .. :: _ => false
  | .dop .. :: _ => false
  | _ :: k => flat k
def flatT : List It → Bool
  | [] => true
  | _ :: k => flat k

theorem StkGo.goes {k : List It} (hk : flat k = true) (h : StkGo P ro f Q cfg β k a w) : Goes P ro f Q (items cfg k) a w := by
  cases k with
  | nil => exact h
  | cons x r => cases x <;> first | (simp [flat] at hk; done) | exact h
theorem flatT_of {k : List It} (h : flat k = true) : flatT k = true := by
  cases k with
  | nil => rfl
  | cons x r => cases x <;> first | (simp [flat] at h; done) | exact h

theorem xto_spec {id : Nat} : ∀ {k k' : List It}, xto id k = some k' → exitTo id (items cfg k) = some (items cfg k') ∧ (flat k = true → flat k' = true)
  | [], _, h => by simp [xto] at h
  | x :: k, k', h => by
    cases x
    case blk i =>
      simp only [xto] at h
      cases hb : Nat.beq i id <;> rw [hb] at h
      · obtain ⟨h1, h2⟩ := xto_spec h
        have : (i == id) = false := by simpa using Nat.ne_of_beq_eq_false hb
        exact ⟨by simp only [items, List.map_cons, It.item, exitTo, this]; exact h1, h2⟩
      · simp only [cond_true, Option.some.injEq] at h
        subst h
        obtain rfl := Nat.eq_of_beq_eq_true hb
        exact ⟨by simp [items, It.item, exitTo], fun h => h⟩
    case raw => simp [xto] at h
    all_goals
      simp only [xto] at h
      obtain ⟨h1, h2⟩ := xto_spec h
      refine ⟨by simp only [items, List.map_cons, It.item, exitTo]; exact h1, fun hf => ?_⟩
      first | exact h2 hf | (simp [flat] at hf)

theorem xto_none {id : Nat} : ∀ {k : List It}, xto id k = none → noRaw k = true → exitTo id (items cfg k) = none
  | [], _, _ => rfl
  | x :: k, h, hr => by
    cases x
    case blk i =>
      simp only [xto] at h
      cases hb : Nat.beq i id <;> rw [hb] at h
      · have : (i == id) = false := by simpa using Nat.ne_of_beq_eq_false hb
        simp only [items, List.map_cons, It.item, exitTo, this]
        exact xto_none h hr
      · simp at h
    case raw => simp [noRaw] at hr
    case dreg => simp [noRaw] at hr
    case dop => simp [noRaw] at hr
    all_goals
      simp only [xto] at h
      simp only [items, List.map_cons, It.item, exitTo]
      exact xto_none h hr

/-! ### One operation -/
theorem op1_val (hR : Rel cfg ds F β fr H a w) {nx : Nat} {orc orc' : List LV} {c : Ctx} (hc : Cok fr c) {o : Oper} {ns : NeedL} {v : LV}
    (h : op1 cfg P fr H nx orc c o = .val ns v orc') (hn : allP β ns) : v.isGd = false ∧ (execOp a.eval o).run P w = .ok (.value (den β v)) w := by
  unfold op1 at h
  split at h
  · rename_i v' ns' he
    cases hg : v'.isGd <;> rw [hg] at h
    · simp only [cond_false, Op1.val.injEq] at h
      obtain ⟨rfl, rfl, rfl⟩ := h
      exact ⟨hg, evalPure_spec hR.agree hR.gd hc he hn⟩
    · cases h
  · split at h
    · rename_i v' ns' orc'' he
      cases hg : v'.isGd <;> rw [hg] at h
      · simp only [cond_false, Op1.val.injEq] at h
        obtain ⟨rfl, rfl, rfl⟩ := h
        exact ⟨hg, evalLoad_spec hR.agree hR.gd hc hR.sat.look he hn⟩
      · cases h
    · split at h <;> cases h

theorem op1_eff (hR : Rel cfg ds F β fr H a w) {nx : Nat} (hnx : nx = β.length) {orc : List LV} {c : Ctx} (hc : Cok fr c) {o : Oper} {e : Eff}
    (h : op1 cfg P fr H nx orc c o = .eff e) (hn : allP β e.ns) : EffOk P cfg.w0 β fr F a w o nx e := by
  unfold op1 at h
  split at h
  · rename_i v' ns' he
    cases hg : v'.isGd <;> rw [hg] at h <;> cases h
  · split at h
    · rename_i v' ns' orc'' he
      cases hg : v'.isGd <;> rw [hg] at h <;> cases h
    · split at h
      · rename_i e' he
        cases h
        exact evalEff_spec hR.agree hR.gd hc hR.sat hnx he hn
      · cases h

theorem needN_ok {G : List Nat → St → Prop} {L : List Nat → Leave → St → Prop} {ns : NeedL} {r : Res} (h : (needN ns r).ok G L β) : allP β ns ∧ r.ok G L β := by
  cases ns with
  | nil => exact ⟨trivial, h⟩
  | cons x l => exact h
theorem under_ok {c : Ctx} {ns : NeedL} (h : allP β (under c ns)) (hc : ∀ t w b, c = some (t, w, b) → b = true) : allP β ns := by
  cases c with
  | none => exact h
  | some q =>
    obtain ⟨t, w, b⟩ := q
    cases ns with
    | nil => trivial
    | cons x l => exact h.1 (hc t w b rfl)

/-- An operation that is carried out, whatever is behind it ('K'). -/
theorem eff_go {G : List Nat → St → Prop} {L : List Nat → Leave → St → Prop} {o : Oper} {nx : Nat} (hnx : nx = β.length) (hd : okDst cfg.N o.dst = true) {e : Eff} (hR : Rel cfg ds F β fr H a w)
    (hE : EffOk P cfg.w0 β fr F a w o nx e) {r : Res} (hok : (newN (Nat.blt nx e.nx) r).ok G L β) {K : Act → World → Prop}
    (hK : ∀ γ w' fr', e.nx = (β ++ γ).length → fr' = (match e.dst with | some v => putS fr o.dst v | none => delS fr o.dst) → r.ok G L (β ++ γ) →
      (e.tgt = none → ∀ k, k < w.heap.size → w'.heap[k]? = w.heap[k]?) → ∀ a', Rel cfg ds F (β ++ γ) fr' e.H a' w' → K a' w') : OpGo P o a w K := by
  obtain ⟨γ, w', h1, h2, h3, h4, hg, h5, h6⟩ := hE
  have hagree : Agree (β ++ γ) fr a := by
    rcases h3 with rfl | h3
    · rw [List.append_nil]; exact hR.agree
    · exact hR.agree.append (by rw [← hnx]; exact h3)
  have hok' : r.ok G L (β ++ γ) := by
    cases γ with
    | nil =>
      have : Nat.blt nx e.nx = false := by
        simp only [List.length_nil, Nat.add_zero] at h1
        rw [h1]
        cases hb : Nat.blt nx nx
        · rfl
        · rw [Nat.blt_eq] at hb; omega
      rw [this] at hok
      rw [List.append_nil]; exact hok
    | cons b r' =>
      have hr' : r' = [] := by
        simp only [List.length_cons] at h2
        exact List.length_eq_zero_iff.1 (by omega)
      subst hr'
      have : Nat.blt nx e.nx = true := by
        rw [Nat.blt_eq]
        simp only [List.length_cons, List.length_nil] at h1; omega
      rw [this] at hok
      exact hok b
  have hR' : Rel cfg ds F (β ++ γ) fr e.H a w' := ⟨hR.size, hR.defers, hagree, hR.gd, h5⟩
  have hlen : e.nx = (β ++ γ).length := by rw [h1, hnx]; simp
  cases hdst : e.dst with
  | some v =>
    rw [hdst] at h6
    refine OpGo.value h6 (hK γ w' (putS fr o.dst v) hlen (by rw [hdst]) hok' h4 _ ?_)
    exact hR'.putS hd (hg v hdst)
  | none =>
    rw [hdst] at h6
    exact OpGo.skip h6 (hK γ w' (delS fr o.dst) hlen (by rw [hdst]) hok' h4 _ (hR'.delS o.dst undef))

end
end Go.E
