/-
  Lists that lie in blocks: records of equal length, one behind another; what stands side by side.
-/
import Derived.Test.YtlgggljlegpaoaaE13
namespace Go.E

theorem Res.ok_mono {G G' : List Nat → St → Prop} {L L' : List Nat → Leave → St → Prop} (hG : ∀ β s, G β s → G' β s) (hL : ∀ β x s, L β x s → L' β x s) : ∀ (r : Res) (β : List Nat), r.ok G L β → r.ok G' L' β
  | .stop s, β, h => hG β s h
  | .leave x s, β, h => hL β x s h
  | .need ns r, β, h => ⟨h.1, Res.ok_mono hG hL r β h.2⟩
  | .ite b t e, β, h => ⟨fun hb => Res.ok_mono hG hL t β (h.1 hb), fun hb => Res.ok_mono hG hL e β (h.2 hb)⟩
  | .new r, β, h => fun b => Res.ok_mono hG hL r (β ++ [b]) (h b)
  | .both x y, β, h => ⟨Res.ok_mono hG hL x β h.1, Res.ok_mono hG hL y β h.2⟩
  | .done, _, h => h
  | .bad _ _, _, h => h

/-- To run on from each place where a run came to a stop. -/
def Res.cont (cfg : Cfg) (P : Program) (m : Nat) : Res → Res
  | .stop s => bif flatT s.stk then run cfg P m s else .stop s
  | .leave x s => .leave x s
  | .need ns r => .need ns (r.cont cfg P m)
  | .ite b t e => .ite b (t.cont cfg P m) (e.cont cfg P m)
  | .new r => .new (r.cont cfg P m)
  | .both x y => .both (x.cont cfg P m) (y.cont cfg P m)
  | .done => .done
  | .bad w s => .bad w s

theorem Res.cont_ok {P : Program} {ro : Option Nat} {f : FuncId} {Q : Leave → Act → World → Prop} {cfg : Cfg} {ds : List Deferred} {F : HP} (hm : P.follows .mixedOrders = true) (m : Nat) :
    ∀ (r : Res) (β : List Nat), Ok P ro f Q cfg ds F β (r.cont cfg P m) → Ok P ro f Q cfg ds F β r
  | .stop s, β, h => by
    unfold Res.cont at h
    cases hf : flatT s.stk <;> rw [hf] at h
    · exact h
    · exact fun hnx a w hR => run_sound hm m s β hf hnx h a w hR
  | .leave _ _, _, h => h
  | .need _ r, β, h => ⟨h.1, Res.cont_ok hm m r β h.2⟩
  | .ite _ t e, β, h => ⟨fun hb => Res.cont_ok hm m t β (h.1 hb), fun hb => Res.cont_ok hm m e β (h.2 hb)⟩
  | .new r, β, h => fun b => Res.cont_ok hm m r (β ++ [b]) (h b)
  | .both x y, β, h => ⟨Res.cont_ok hm m x β h.1, Res.cont_ok hm m y β h.2⟩
  | .done, _, h => h
  | .bad _ _, _, h => h

theorem Ok.more {P : Program} {ro : Option Nat} {f : FuncId} {Q : Leave → Act → World → Prop} {cfg : Cfg} {ds : List Deferred} {F : HP} {β : List Nat} {r : Res} (hm : P.follows .mixedOrders = true) (m : Nat)
    (h : OkI P ro f Q cfg ds F β (r.cont cfg P m)) : Ok P ro f Q cfg ds F β r := Res.cont_ok hm m r β (by unfold OkI at h; exact h)

/-- To run on as far as one of some regions. -/
theorem Go.runS {P : Program} {ro : Option Nat} {f : FuncId} {Q : Leave → Act → World → Prop} {cfg : Cfg} {ds : List Deferred} {F : HP} {β : List Nat} {fr : Fr} {H : Hp} {stk : List It} (hm : P.follows .mixedOrders = true) (n : Nat) (orc : List LV)
    (stops : List Nat) (hf : flatT stk = true) (h : OkI P ro f Q cfg ds F β (Go.E.run { cfg with stops := stops } P n ⟨stk, fr, H, β.length, orc⟩)) : Go P ro f Q cfg ds F β fr H stk := by
  have h' : OkI P ro f Q { cfg with stops := stops } ds F β (Go.E.run { cfg with stops := stops } P n ⟨stk, fr, H, β.length, orc⟩) := by
    unfold OkI at h ⊢
    refine Res.ok_mono (fun β s hs hn a w hR => hs hn a w ⟨hR.size, hR.defers, hR.agree, hR.gd, hR.sat⟩) (fun β x s hs a w hR => hs a w ⟨hR.size, hR.defers, hR.agree, hR.gd, hR.sat⟩) _ _ h
  exact fun a w hR => Go.E.Go.run (cfg := { cfg with stops := stops }) hm n orc hf h' a w ⟨hR.size, hR.defers, hR.agree, hR.gd, hR.sat⟩

/-- The same, with the blocks that drawn regions' loads may be told of. -/
theorem Go.runH {P : Program} {ro : Option Nat} {f : FuncId} {Q : Leave → Act → World → Prop} {cfg : Cfg} {ds : List Deferred} {F : HP} {β : List Nat} {fr : Fr} {H : Hp} {stk : List It} (hm : P.follows .mixedOrders = true) (n : Nat) (orc : List LV)
    (stops : List Nat) (hs : List Nat) (hf : flatT stk = true) (h : OkI P ro f Q cfg ds F β (Go.E.run { cfg with stops := stops, hs := some hs } P n ⟨stk, fr, H, β.length, orc⟩)) : Go P ro f Q cfg ds F β fr H stk := by
  have h' : OkI P ro f Q { cfg with stops := stops, hs := some hs } ds F β (Go.E.run { cfg with stops := stops, hs := some hs } P n ⟨stk, fr, H, β.length, orc⟩) := by
    unfold OkI at h ⊢
    refine Res.ok_mono (fun β s hs hn a w hR => hs hn a w ⟨hR.size, hR.defers, hR.agree, hR.gd, hR.sat⟩) (fun β x s hs a w hR => hs a w ⟨hR.size, hR.defers, hR.agree, hR.gd, hR.sat⟩) _ _ h
  exact fun a w hR => Go.E.Go.run (cfg := { cfg with stops := stops, hs := some hs }) hm n orc hf h' a w ⟨hR.size, hR.defers, hR.agree, hR.gd, hR.sat⟩

/-- From place off on, cs holds l. -/
def At (cs : List Value) (off : Nat) (l : List Value) : Prop := ∀ j v, l[j]? = some v → cs[off + j]? = some v

section
variable {α : Type}

theorem setL_get : ∀ (vs cs : List α) (off i : Nat), off + vs.length ≤ cs.length → (setL cs off vs)[i]? = if off ≤ i ∧ i < off + vs.length then vs[i - off]? else cs[i]?
  | [], cs, off, i, _ => by simp only [setL, List.length_nil, Nat.add_zero]; rw [if_neg (by omega)]
  | v :: r, cs, off, i, h => by
    simp only [List.length_cons] at h
    rw [setL, setL_get r (cs.set off v) (off + 1) i (by simp; omega)]
    simp only [List.length_cons]
    by_cases h1 : off + 1 ≤ i ∧ i < off + 1 + r.length
    · rw [if_pos h1, if_pos (by omega), show i - off = i - (off + 1) + 1 by omega]; simp
    · rw [if_neg h1]
      by_cases h2 : i = off
      · subst h2
        rw [if_pos (by omega), List.getElem?_set_self (by omega)]; simp
      · rw [if_neg (by omega), List.getElem?_set_ne (by omega)]

theorem At.le {cs l : List Value} {off : Nat} (h : At cs off l) (h0 : l ≠ []) : off + l.length ≤ cs.length := by
  have hp : 0 < l.length := List.length_pos_iff.2 h0
  have := h (l.length - 1) _ (List.getElem?_eq_getElem (by omega))
  have := (List.getElem?_eq_some_iff.1 this).1
  omega

theorem At.set {cs l l' : List Value} {off : Nat} (h : At cs off l) (h0 : l ≠ []) (hl : l'.length = l.length) : At (setL cs off l') off l' := by
  intro j v hj
  have hlt : j < l'.length := (List.getElem?_eq_some_iff.1 hj).1
  have hle := h.le h0
  rw [setL_get _ _ _ _ (by omega), if_pos (by omega), ← hj]; congr 1; omega

/-- A part of a stretch is set: the stretch is set. -/
theorem At.setL {cs l vs : List Value} {off j : Nat} (h : At cs off l) (hj : j + vs.length ≤ l.length) (h0 : l ≠ []) : Go.E.setL cs (off + j) vs = Go.E.setL cs off (Go.E.setL l j vs) := by
  have hle := h.le h0
  apply List.ext_getElem?
  intro i
  rw [setL_get _ _ _ _ (by omega), setL_get _ _ _ _ (by rw [setL_length]; omega), setL_length]
  by_cases h1 : off ≤ i ∧ i < off + l.length
  · rw [if_pos h1, setL_get _ _ _ _ hj]
    by_cases h2 : off + j ≤ i ∧ i < off + j + vs.length
    · rw [if_pos h2, if_pos (by omega)]; congr 1; omega
    · rw [if_neg h2, if_neg (by omega)]
      have hlt : i - off < l.length := by omega
      have := h (i - off) _ (List.getElem?_eq_getElem hlt)
      rw [show off + (i - off) = i by omega] at this
      rw [this, List.getElem?_eq_getElem hlt]
  · rw [if_neg h1, if_neg (by omega)]

theorem setL_setL {cs l l' : List α} {off : Nat} (h : off + l.length ≤ cs.length) (hl : l'.length = l.length) : Go.E.setL (Go.E.setL cs off l) off l' = Go.E.setL cs off l' := by
  apply List.ext_getElem?
  intro i
  rw [setL_get _ _ _ _ (by rw [setL_length]; omega), setL_get _ _ _ _ h, setL_get _ _ _ _ (by omega)]
  by_cases h1 : off ≤ i ∧ i < off + l'.length
  · simp [h1]
  · rw [if_neg h1, if_neg h1, if_neg (by omega)]

theorem setL_self {cs l : List Value} {off : Nat} (h : At cs off l) (h0 : l ≠ []) : Go.E.setL cs off l = cs := by
  have hle := h.le h0
  apply List.ext_getElem?
  intro i
  rw [setL_get _ _ _ _ hle]
  by_cases h1 : off ≤ i ∧ i < off + l.length
  · rw [if_pos h1]
    have hlt : i - off < l.length := by omega
    have := h (i - off) _ (List.getElem?_eq_getElem hlt)
    rw [show off + (i - off) = i by omega] at this
    rw [this, List.getElem?_eq_getElem hlt]
  · rw [if_neg h1]

theorem At.part {cs l m : List Value} {off j : Nat} (h : At cs off l) (hm : At l j m) : At cs (off + j) m := fun i v hi => by
  rw [Nat.add_assoc]; exact h _ _ (hm i v hi)
theorem At.mid {a m b : List Value} : At (a ++ m ++ b) a.length m := fun i v hi => by
  have hlt : i < m.length := (List.getElem?_eq_some_iff.1 hi).1
  rw [List.append_assoc, List.getElem?_append_right (by omega), List.getElem?_append_left (by omega), ← hi]; congr 1; omega
theorem At.get {cs l : List Value} {off : Nat} (h : At cs off l) {j : Nat} {v : Value} (hj : l[j]? = some v) : cs[off + j]? = some v := h j v hj

theorem flat_length {g : α → List Value} {n : Nat} : ∀ {ls : List α}, (∀ x ∈ ls, (g x).length = n) → (ls.flatMap g).length = n * ls.length
  | [], _ => by simp
  | x :: r, h => by
    rw [List.flatMap_cons, List.length_append, h x (by simp), flat_length fun y hy => h y (by simp [hy]), List.length_cons, Nat.mul_add]; omega

theorem flat_at {g : α → List Value} {n : Nat} : ∀ {ls : List α} {k : Nat} {x : α}, (∀ x ∈ ls, (g x).length = n) → ls[k]? = some x → At (ls.flatMap g) (n * k) (g x)
  | [], k, x, _, h => by simp at h
  | y :: r, 0, x, hn, h => by
    simp only [List.getElem?_cons_zero, Option.some.injEq] at h
    subst h
    intro j v hj
    have hlt : j < (g y).length := (List.getElem?_eq_some_iff.1 hj).1
    rw [List.flatMap_cons, Nat.mul_zero, Nat.zero_add, List.getElem?_append_left hlt]; exact hj
  | y :: r, k + 1, x, hn, h => by
    simp only [List.getElem?_cons_succ] at h
    intro j v hj
    have hl := hn y (by simp)
    rw [List.flatMap_cons, List.getElem?_append_right (by rw [hl, Nat.mul_add]; omega)]
    have := flat_at (fun z hz => hn z (by simp [hz])) h j v hj
    rw [← this]; congr 1
    rw [hl, Nat.mul_add]; omega

theorem flat_set {g : α → List Value} {n : Nat} : ∀ {ls : List α} {k : Nat} {x x' : α}, (∀ x ∈ ls, (g x).length = n) → ls[k]? = some x → (g x').length = n → setL (ls.flatMap g) (n * k) (g x') = (ls.set k x').flatMap g
  | [], k, x, _, _, h, _ => by simp at h
  | y :: r, 0, x, x', hn, h, hx' => by
    rw [setL_eq _ _ _ (by rw [flat_length hn, List.length_cons, Nat.mul_add]; omega)]
    simp only [Nat.mul_zero, List.take_zero, List.nil_append, Nat.zero_add, List.set_cons_zero, List.flatMap_cons]
    rw [List.drop_append, hx', hn y (by simp)]
    simp [hn y (by simp)]
  | y :: r, k + 1, x, x', hn, h, hx' => by
    simp only [List.getElem?_cons_succ] at h
    have hl := hn y (by simp)
    have hr := fun z hz => hn z (List.mem_cons_of_mem y hz)
    have ih := flat_set hr h hx'
    have hk : k < r.length := (List.getElem?_eq_some_iff.1 h).1
    have hkl : n * k + n ≤ n * r.length := by rw [← Nat.mul_succ]; exact Nat.mul_le_mul_left _ hk
    simp only [List.set_cons_succ, List.flatMap_cons, ← ih]
    apply List.ext_getElem?
    intro i
    rw [setL_get _ _ _ _ (by rw [List.length_append, flat_length hr, hl, hx', Nat.mul_add]; omega)]
    by_cases h1 : i < n
    · rw [if_neg (by rw [Nat.mul_add]; omega), List.getElem?_append_left (by omega), List.getElem?_append_left (by omega)]
    · rw [List.getElem?_append_right (by omega), List.getElem?_append_right (by omega), hl, setL_get _ _ _ _ (by rw [flat_length hr, hx']; omega)]
      by_cases h2 : n * k ≤ i - n ∧ i - n < n * k + (g x').length
      · rw [if_pos h2, if_pos (by rw [Nat.mul_add]; omega)]; congr 1; rw [Nat.mul_add]; omega
      · rw [if_neg h2, if_neg (by rw [Nat.mul_add]; omega)]
end

theorem setL_mid {α : Type} {a m b vs : List α} {j : Nat} (h : j + vs.length ≤ m.length) : setL (a ++ m ++ b) (a.length + j) vs = a ++ setL m j vs ++ b := by
  rw [setL_eq _ _ _ (by simp only [List.length_append]; omega), setL_eq _ _ _ h, List.append_assoc a m b, List.take_append, List.drop_append]
  have e1 : a.take (a.length + j) = a := List.take_of_length_le (by omega)
  have e2 : a.drop (a.length + j + vs.length) = [] := List.drop_of_length_le (by omega)
  rw [e1, e2, show a.length + j - a.length = j by omega, show a.length + j + vs.length - a.length = j + vs.length by omega, List.take_append_of_le_length (by omega), List.drop_append_of_le_length (by omega)]
  simp only [List.append_assoc, List.nil_append]

/-! ### Side by side -/
def stars : List HP → HP
  | [] => 1
  | p :: r => p * stars r

theorem stars_append : ∀ (a b : List HP), stars (a ++ b) = stars a * stars b
  | [], b => by simp [stars, one_mul]
  | p :: r, b => by simp only [List.cons_append, stars, stars_append r b, star_assoc]

theorem stars_get : ∀ {l : List HP} {k : Nat} {p : HP}, l[k]? = some p → stars l = p * stars (l.eraseIdx k)
  | [], _, _, h => by simp at h
  | q :: r, 0, p, h => by simp at h; subst h; rfl
  | q :: r, k + 1, p, h => by
    simp only [List.getElem?_cons_succ] at h
    simp only [stars, List.eraseIdx_cons_succ, stars_get h]
    exact star_left _ _ _

theorem stars_set : ∀ {l : List HP} {k : Nat} {p : HP}, k < l.length → stars (l.set k p) = p * stars (l.eraseIdx k)
  | [], _, _, h => by simp at h
  | q :: r, 0, p, h => rfl
  | q :: r, k + 1, p, h => by
    simp only [List.length_cons] at h
    simp only [stars, List.set_cons_succ, List.eraseIdx_cons_succ, stars_set (l := r) (k := k) (p := p) (by omega)]
    exact star_left _ _ _

end Go.E
