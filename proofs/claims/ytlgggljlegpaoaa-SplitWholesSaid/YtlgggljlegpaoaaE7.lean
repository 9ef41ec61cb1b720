/-
  A region whose order is drawn, in two stages: while not all of Z has come, S holds behind each operation that is carried out (so that a load of Z's may be
  taken first); each operation that is none of Z's waits for all of Z.
-/
import Derived.Test.YtlgggljlegpaoaaE2
namespace Go.E

section
variable {P : Program} {ro : Option Nat} {f : FuncId} {Q : Leave → Act → World → Prop} {k : List Item} {a : Act} {w : World} {ops : Array Oper}

/-- The operations that number j waits for, as bits. -/
def pm (ops : Array Oper) (j : Nat) : Nat :=
  match ops[j]? with
  | some o => o.after.toList.foldl (fun m e => bif Region.binds .any e then m ||| 2 ^ e.on else m) 0
  | none => 0
def clz (ops : Array Oper) (j : Nat) : Nat := (List.range ops.size).reverse.foldl (fun m i => bif m.testBit i then m ||| pm ops i else m) (pm ops j)

/-- What has come is closed under 'waits for'. -/
def Dc (ops : Array Oper) (listed : Array Bool) : Prop := ∀ j o, listed.getD j false = true → ops[j]? = some o → ∀ e ∈ o.after, Region.binds .any e = true → listed.getD e.on false = true

def Sub (m : Nat) (listed : Array Bool) : Prop := ∀ i, m.testBit i = true → listed.getD i false = true

theorem pm_sub {j : Nat} {listed : Array Bool} (h : ∀ o, ops[j]? = some o → ∀ e ∈ o.after, Region.binds .any e = true → listed.getD e.on false = true) : Sub (pm ops j) listed := by
  unfold pm
  cases ho : ops[j]? with
  | none => intro i hi; simp at hi
  | some o =>
    have h' := h o ho
    simp only
    have key : ∀ (l : List Edge) (m : Nat), Sub m listed → (∀ e ∈ l, Region.binds .any e = true → listed.getD e.on false = true) → Sub (l.foldl (fun m e => bif Region.binds .any e then m ||| 2 ^ e.on else m) m) listed := by
      intro l
      induction l with
      | nil => intro m hm _; exact hm
      | cons e r ih =>
        intro m hm hl
        simp only [List.foldl_cons]
        refine ih _ ?_ (fun e' he' => hl e' (by simp [he']))
        cases hb : Region.binds .any e
        · exact hm
        · intro i hi
          simp only [cond_true, Nat.testBit_or, Bool.or_eq_true, Nat.testBit_two_pow, decide_eq_true_eq] at hi
          rcases hi with hi | hi
          · exact hm i hi
          · subst hi; exact hl e (by simp) hb
    exact key _ 0 (fun i hi => by simp at hi) (fun e he => h' e (by simpa using he))

theorem clz_sub {j : Nat} {listed : Array Bool} (hd : Dc ops listed) (hj : j ∈ rdy ops listed) : Sub (clz ops j) listed := by
  unfold clz
  obtain ⟨_, oj, hoj, hall⟩ := mem_ready.1 hj
  have key : ∀ (l : List Nat) (m : Nat), Sub m listed → Sub (l.foldl (fun m i => bif m.testBit i then m ||| pm ops i else m) m) listed := by
    intro l
    induction l with
    | nil => intro m hm; exact hm
    | cons i r ih =>
      intro m hm
      simp only [List.foldl_cons]
      refine ih _ ?_
      cases hb : m.testBit i
      · exact hm
      · intro t ht
        simp only [cond_true, Nat.testBit_or, Bool.or_eq_true] at ht
        rcases ht with ht | ht
        · exact hm t ht
        · exact pm_sub (fun o ho => hd i o (hm i hb) ho) t ht
  exact key _ _ (pm_sub fun o ho => by rw [hoj] at ho; cases ho; exact hall)

theorem Dc.set {j : Nat} {listed : Array Bool} (hd : Dc ops listed) (hj : j ∈ rdy ops listed) : Dc ops (listed.setIfInBounds j true) := by
  obtain ⟨_, oj, hoj, hall⟩ := mem_ready.1 hj
  intro i o hi ho e he hb
  by_cases hij : j = i
  · subst hij; rw [hoj] at ho; cases ho; exact getD_set_true (hall e he hb)
  · rw [getD_set_ne false hij] at hi; exact getD_set_true (hd i o hi ho e he hb)

def zdone (Z : Nat) (n : Nat) (listed : Array Bool) : Bool := (List.range n).all fun i => !Z.testBit i || listed.getD i false
def zok (Z : Nat) (ops : Array Oper) : Bool := (List.range ops.size).all fun j => Z.testBit j || Nat.beq ((clz ops j) ||| Z) (clz ops j)

theorem zdone_of_sub {Z n : Nat} {listed : Array Bool} (h : Sub Z listed) : zdone Z n listed = true := by
  unfold zdone
  rw [List.all_eq_true]
  intro i _
  cases hb : Z.testBit i
  · rfl
  · simp [h i hb]

theorem zok_spec {Z j : Nat} {listed : Array Bool} (hz : zok Z ops = true) (hd : Dc ops listed) (hj : j ∈ rdy ops listed) (hn : zdone Z ops.size listed = false) : Z.testBit j = true := by
  obtain ⟨_, oj, hoj, hall⟩ := mem_ready.1 hj
  have hlt : j < ops.size := (Array.getElem?_eq_some_iff.1 hoj).1
  unfold zok at hz
  rw [List.all_eq_true] at hz
  have h1 := hz j (by simpa using hlt)
  simp only [Bool.or_eq_true] at h1
  rcases h1 with h1 | h1
  · exact h1
  · exfalso
    have e := Nat.eq_of_beq_eq_true h1
    have : Sub Z listed := fun i hi => clz_sub hd hj i (by rw [← e, Nat.testBit_or, hi, Bool.or_true])
    rw [zdone_of_sub this] at hn
    cases hn

/-- In two stages. -/
def Two (P : Program) (ops : Array Oper) (Z : Nat) (S : World → Prop) (D : Act → World → Prop) : Nat → Array Bool → Act → World → Prop
  | 0, listed, a, w => rdy ops listed = [] ∧ D a w
  | n + 1, listed, a, w => (rdy ops listed = [] → D a w) ∧
    ∀ i ∈ rdy ops listed, wop P ops i (fun a' w' => (zdone Z ops.size listed = false → S w') ∧ Two P ops Z S D n (listed.setIfInBounds i true) a' w') a w

theorem Two.any {Z : Nat} {S : World → Prop} {D : Act → World → Prop} : ∀ (n : Nat) (listed : Array Bool) (a : Act) (w : World), Two P ops Z S D n listed a w → Any P ops (fun _ => True) D n listed a w
  | 0, _, _, _, h => h
  | n + 1, _, _, _, h => ⟨h.1, fun i hi => wop_mono (fun a' w' h' => ⟨trivial, Two.any n _ a' w' h'.2⟩) (h.2 i hi)⟩

theorem Goes.two {id : Nat} {Z : Nat} {S : World → Prop} (hm : P.follows .mixedOrders = true)
    (h : Two P ops Z S (Goes P ro f Q k) ops.size (Array.replicate ops.size false) a w.drew) : Goes P ro f Q (.code (.region id ops true) :: k) a w :=
  Goes.draw hm (Two.any _ _ _ _ h)

theorem getD_both' {listed : Array Bool} {i : Nat} (h : listed.getD i true = false) : listed.getD i false = false := by
  rcases Nat.lt_or_ge i listed.size with h' | h'
  · simp [h'] at h ⊢; exact h
  · simp [Array.getElem?_eq_none h']

/-- An operation may be taken first: T is what its yield hangs on; T is known behind whatever else may come. -/
theorem Two.firstT {Z : Nat} {S T : World → Prop} {D : Act → World → Prop} {i : Nat} {oi : Oper} {v : Value} (hi : ops[i]? = some oi)
    (hsel : ∀ (j : Nat) (o : Oper) cs b, ops[j]? = some o → o.op ≠ .select cs b) :
    ∀ (n : Nat) (listed : Array Bool) (a : Act) (w : World), Dc ops listed →
      (∀ listed' w', Dc ops listed' → listed'.getD i false = false → (∀ j ∈ rdy ops listed', j ≠ i → (zdone Z ops.size (listed'.setIfInBounds i true) = false → S w') → T w')) →
      (∀ j oj, ops[j]? = some oj → j ≠ i → listed.getD j true = false → (∀ e ∈ oj.after, Region.binds .any e = true → e.on ≠ i) → oi.apart ops oj = true) →
      i ∈ rdy ops listed → Yl P ops T oi v a → T w → (zdone Z ops.size listed = false → S w) →
      (∀ listed' w', Dc ops listed' → listed'.getD i false = false → (∀ j ∈ rdy ops listed', j ≠ i → (zdone Z ops.size (listed'.setIfInBounds i true) = false → S w') → (zdone Z ops.size listed' = false → S w'))) →
      Two P ops Z S D n (listed.setIfInBounds i true) (a.put oi.dst v) w → Two P ops Z S D (n + 1) listed a w := by
  intro n
  have nolist : ∀ {listed : Array Bool}, i ∈ rdy ops listed → listed.getD i false = false := fun hr => getD_both' (mem_ready.1 hr).1
  induction n with
  | zero =>
    intro listed a w hd hT _ hr hy hTw hSw hS H
    refine ⟨fun h => (by rw [h] at hr; cases hr), fun j hj => ?_⟩
    by_cases hji : j = i
    · subst hji; exact hy.wop hi hTw ⟨hSw, H⟩
    · have := ready_mono hj hji
      rw [show Region.ready .any ops (listed.setIfInBounds i true) = [] from H.1] at this
      cases this
  | succ n ih =>
    intro listed a w hd hT hfree hr hy hTw hSw hS H
    refine ⟨fun h => (by rw [h] at hr; cases hr), fun j hj => ?_⟩
    by_cases hji : j = i
    · subst hji; exact hy.wop hi hTw ⟨hSw, H⟩
    · have h1 := H.2 j (ready_mono hj hji)
      obtain ⟨hjun, oj, hoj, hall⟩ := mem_ready.1 hj
      have hnot : ∀ e ∈ oj.after, Region.binds .any e = true → e.on ≠ i := fun e he hb heq => by
        have h1 := hall e he hb
        have h0 := (mem_ready.1 hr).1
        rw [heq] at h1
        rcases Nat.lt_or_ge i listed.size with h' | h'
        · simp [h'] at h0 h1; rw [h0] at h1; cases h1
        · simp [Array.getElem?_eq_none h'] at h1
      have h2 := wop_put hoj (hfree j oj hoj hji hjun hnot) (fun cs b => hsel i oi cs b hi) (fun cs b => hsel j oj cs b hoj) hy h1
      have hfree' : ∀ k ok, ops[k]? = some ok → k ≠ i → (listed.setIfInBounds j true).getD k true = false →
          (∀ e ∈ ok.after, Region.binds .any e = true → e.on ≠ i) → oi.apart ops ok = true := fun k ok hk hki hun hno => by
        refine hfree k ok hk hki ?_ hno
        by_cases hjk : j = k
        · subst hjk; exact hjun
        · rw [getD_set_ne true hjk] at hun; exact hun
      have hun := nolist hr
      refine wop_mono (fun a' w' h3 => ?_) h2
      have hS' := hS listed w' hd hun j hj hji h3.2.1
      have hT' := hT listed w' hd hun j hj hji h3.2.1
      have hr' := ready_mono hr (Ne.symm hji)
      refine ⟨hS', ih (listed.setIfInBounds j true) a' w' (hd.set hj) hT hfree' hr' h3.1 hT' (fun hz => ?_) hS ?_⟩
      · refine hS' ?_
        cases hz' : zdone Z ops.size listed
        · rfl
        · exfalso
          have : zdone Z ops.size (listed.setIfInBounds j true) = true := by
            unfold zdone at hz' ⊢
            rw [List.all_eq_true] at hz' ⊢
            intro t ht
            have := hz' t ht
            simp only [Bool.or_eq_true] at this ⊢
            exact this.imp id getD_set_true
          rw [this] at hz; cases hz
      · rw [Array.setIfInBounds_comm _ _ hji]
        exact h3.2.2

/-- A load of Z's, while not all of Z has come; what else may come is of Z's, or waits for it. -/
theorem Two.takeS {Z : Nat} {S : World → Prop} {D : Act → World → Prop} {i : Nat} {oi : Oper} {v : Value} {n : Nat} {listed : Array Bool} (hz : zok Z ops = true) (hd : Dc ops listed) (hi : ops[i]? = some oi)
    (hs : Region.noSelect ops = true) (hf : Region.free .any ops listed i = true) (hr : (rdy ops listed).contains i = true) (hiZ : Z.testBit i = true) (hy : Yl P ops S oi v a) (hS : S w)
    (h : Two P ops Z S D n (listed.setIfInBounds i true) (a.put oi.dst v) w) : Two P ops Z S D (n + 1) listed a w := by
  have hr' : i ∈ rdy ops listed := by simpa using hr
  have hlt : i < ops.size := (Array.getElem?_eq_some_iff.1 hi).1
  have key : ∀ (listed' : Array Bool) (w' : World), Dc ops listed' → listed'.getD i false = false → ∀ j ∈ rdy ops listed', j ≠ i → (zdone Z ops.size (listed'.setIfInBounds i true) = false → S w') → S w' := by
    intro listed' w' hd' hun j hj hji hh
    refine hh ?_
    have hzn : zdone Z ops.size listed' = false := by
      unfold zdone
      rw [List.all_eq_false]
      exact ⟨i, by simpa using hlt, by simp [hiZ, hun]⟩
    have hjZ := zok_spec hz hd' hj hzn
    have hjun := (mem_ready.1 hj).1
    obtain ⟨_, oj, hoj, _⟩ := mem_ready.1 hj
    have hjlt : j < ops.size := (Array.getElem?_eq_some_iff.1 hoj).1
    unfold zdone
    rw [List.all_eq_false]
    refine ⟨j, by simpa using hjlt, ?_⟩
    rw [getD_set_ne false (Ne.symm hji), getD_both' hjun]
    simp [hjZ]
  exact Two.firstT (T := S) hi (Region.noSelect_spec hs) n listed a w hd key (Region.free_spec hi hf) hr' hy hS (fun _ => hS) (fun l w' a1 a2 j a3 a4 a5 _ => key l w' a1 a2 j a3 a4 a5) h

/-- What yields in whatever world. -/
theorem Two.takeP {Z : Nat} {S : World → Prop} {D : Act → World → Prop} {i : Nat} {oi : Oper} {v : Value} {n : Nat} {listed : Array Bool} (hz : zok Z ops = true) (hd : Dc ops listed) (hi : ops[i]? = some oi)
    (hs : Region.noSelect ops = true) (hf : Region.free .any ops listed i = true) (hr : (rdy ops listed).contains i = true) (hy : Yl P ops (fun _ => True) oi v a) (hS : zdone Z ops.size listed = false → S w)
    (h : Two P ops Z S D n (listed.setIfInBounds i true) (a.put oi.dst v) w) : Two P ops Z S D (n + 1) listed a w := by
  have hr' : i ∈ rdy ops listed := by simpa using hr
  refine Two.firstT (T := fun _ => True) hi (Region.noSelect_spec hs) n listed a w hd (fun _ _ _ _ _ _ _ _ => trivial) (Region.free_spec hi hf) hr' hy trivial hS ?_ h
  intro listed' w' hd' hun j hj hji hh hzn
  refine hh ?_
  have hjZ := zok_spec hz hd' hj hzn
  have hjun := (mem_ready.1 hj).1
  obtain ⟨_, oj, hoj, _⟩ := mem_ready.1 hj
  have hjlt : j < ops.size := (Array.getElem?_eq_some_iff.1 hoj).1
  unfold zdone
  rw [List.all_eq_false]
  refine ⟨j, by simpa using hjlt, ?_⟩
  rw [getD_set_ne false (Ne.symm hji), getD_both' hjun]
  simp [hjZ]

theorem Two.all {Z : Nat} {S : World → Prop} {D : Act → World → Prop} {rs : List Nat} {n : Nat} {listed : Array Bool} (hr : rdy ops listed = rs) (hne : rs ≠ [])
    (h : ∀ i ∈ rs, wop P ops i (fun a' w' => (zdone Z ops.size listed = false → S w') ∧ Two P ops Z S D n (listed.setIfInBounds i true) a' w') a w) : Two P ops Z S D (n + 1) listed a w :=
  ⟨fun h0 => absurd (hr ▸ h0) hne, hr ▸ h⟩

theorem Two.done {Z : Nat} {S : World → Prop} {D : Act → World → Prop} {listed : Array Bool} (hr : rdy ops listed = []) (h : D a w) : ∀ n, Two P ops Z S D n listed a w
  | 0 => ⟨hr, h⟩
  | _ + 1 => ⟨fun _ => h, by rw [hr]; simp⟩

theorem Dc.start (n : Nat) : Dc ops (Array.replicate n false) := by
  intro j o h
  exfalso
  rcases Nat.lt_or_ge j n with h' | h'
  · simp [h'] at h
  · simp [Nat.not_lt.2 h'] at h

end
end Go.E
