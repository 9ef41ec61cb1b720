/-
  The walk's own words, over the machine's steps: 'Goes': from a list of items an activation comes to its end (off its end, by a return, or by a jump
  that nothing in it catches) in a state that Q takes. One rule for each item; a region whose order is drawn is walked over the set of what has come ('Any').
-/
import Derived.AtR
import Derived.Orders
import Derived.Laws.World
namespace Go.E

inductive Leave where
  | fin
  | ret
  | exit (id : Nat)

def Leave.todo : Leave → List Item → List Item
  | .fin, _ => []
  | .ret, k => .code .ret :: k
  | .exit id, k => .code (.exit id) :: k
def Leave.ok : Leave → List Item → Prop
  | .exit id, k => exitTo id k = none
  | _, _ => True

def Goes (P : Program) (ro : Option Nat) (f : FuncId) (Q : Leave → Act → World → Prop) (todo : List Item) (a : Act) (w : World) : Prop :=
  ∀ (b : Frame) (cs : List Frame), b.fn = f → b.kind = .normal → b.roundOf = ro →
    ∃ x a' w' k, Q x a' w' ∧ Leave.ok x k ∧ Steps P (lone (b.atR a todo) cs w) (lone (b.atR a' (x.todo k)) cs w')

section
variable {P : Program} {ro : Option Nat} {f : FuncId} {Q : Leave → Act → World → Prop} {k k' : List Item} {a a' : Act} {w w' : World}

theorem Goes.by_steps (hs : ∀ (b : Frame) (cs : List Frame), b.kind = .normal → b.roundOf = ro → Steps P (lone (b.atR a k) cs w) (lone (b.atR a' k') cs w'))
    (h : Goes P ro f Q k' a' w') : Goes P ro f Q k a w := fun b cs hf hk hr => by
  obtain ⟨x, a1, w1, k1, hq, hok, hst⟩ := h b cs hf hk hr
  exact ⟨x, a1, w1, k1, hq, hok, (hs b cs hk hr).trans hst⟩

theorem Goes.skip (h : Goes P ro f Q k a w) : Goes P ro f Q (.code .skip :: k) a w := Goes.by_steps (fun _ _ _ _ => .one stepR_skip) h
theorem Goes.label {l : Nat} (h : Goes P ro f Q k a w) : Goes P ro f Q (.code (.label l) :: k) a w := Goes.by_steps (fun _ _ _ _ => .one stepR_label) h
theorem Goes.inBlock {id : Nat} (h : Goes P ro f Q k a w) : Goes P ro f Q (.inBlock id :: k) a w := Goes.by_steps (fun _ _ _ _ => .one stepR_inBlock) h
theorem Goes.inScope {c : Code} (h : Goes P ro f Q k a w) : Goes P ro f Q (.inScope c :: k) a w :=
  Goes.by_steps (fun _ _ _ _ => .one (step_lone_go (by simp [stepG, stepG.exec, Frame.atR]))) h
theorem Goes.scope {c : Code} (h : Goes P ro f Q (.code c :: .inScope c :: k) a w) : Goes P ro f Q (.code (.scope c) :: k) a w :=
  Goes.by_steps (fun _ _ _ _ => .one (step_lone_go (by simp [stepG, stepG.exec, Frame.atR]))) h
theorem Goes.seq {x y : Code} (h : Goes P ro f Q (.code x :: .code y :: k) a w) : Goes P ro f Q (.code (.seq x y) :: k) a w := Goes.by_steps (fun _ _ _ _ => .one stepR_seq) h
theorem Goes.cond {c : Operand} {x y : Code} {t : Bool} (hc : a.eval c = .bool t) (h : Goes P ro f Q (.code (if t then x else y) :: k) a w) : Goes P ro f Q (.code (.cond c x y) :: k) a w :=
  Goes.by_steps (fun _ _ _ _ => .one (stepR_cond hc)) h
theorem Goes.block {id : Nat} {c : Code} (h : Goes P ro f Q (.code c :: .inBlock id :: k) a w) : Goes P ro f Q (.code (.block id c) :: k) a w := Goes.by_steps (fun _ _ _ _ => .one stepR_block) h
theorem Goes.loop1 {c : Code} (h : Goes P ro f Q (.code c :: .inLoop c :: k) a w) : Goes P ro f Q (.code (.loop c) :: k) a w := Goes.by_steps (fun _ _ _ _ => .one stepR_loop) h
theorem Goes.inLoop {c : Code} (h : Goes P ro f Q (.code c :: .inLoop c :: k) a w) : Goes P ro f Q (.inLoop c :: k) a w := Goes.by_steps (fun _ _ _ _ => .one stepR_inLoop) h
theorem Goes.exit {id : Nat} (hk : exitTo id k = some k') (h : Goes P ro f Q k' a w) : Goes P ro f Q (.code (.exit id) :: k) a w := Goes.by_steps (fun _ _ _ _ => .one (stepR_exit hk)) h
theorem Goes.goto {l : Nat} (hk : gotoIn l k = some k') (h : Goes P ro f Q k' a w) : Goes P ro f Q (.code (.goto l) :: k) a w := Goes.by_steps (fun _ _ _ _ => .one (stepR_goto hk)) h
theorem Goes.fin (h : Q .fin a w) : Goes P ro f Q [] a w := fun _ _ _ _ _ => ⟨.fin, a, w, [], h, trivial, .refl _ _⟩
theorem Goes.ret (h : Q .ret a w) : Goes P ro f Q (.code .ret :: k) a w := fun _ _ _ _ _ => ⟨.ret, a, w, k, h, trivial, .refl _ _⟩
theorem Goes.out {id : Nat} (hk : exitTo id k = none) (h : Q (.exit id) a w) : Goes P ro f Q (.code (.exit id) :: k) a w := fun _ _ _ _ _ => ⟨.exit id, a, w, k, h, hk, .refl _ _⟩

theorem Goes.mono {Q' : Leave → Act → World → Prop} (hq : ∀ x a w, Q x a w → Q' x a w) (h : Goes P ro f Q k a w) : Goes P ro f Q' k a w := fun b cs hf hk hr =>
  let ⟨x, a1, w1, k1, h1, h2, h3⟩ := h b cs hf hk hr; ⟨x, a1, w1, k1, hq _ _ _ h1, h2, h3⟩

/-- A loop: by a measure. -/
theorem Goes.loop {c : Code} (I : Act → World → Prop) (μ : Act → World → Nat)
    (round : ∀ a w, I a w → (∀ a' w', I a' w' → μ a' w' < μ a w → Goes P ro f Q (.inLoop c :: k) a' w') → Goes P ro f Q (.code c :: .inLoop c :: k) a w)
    (h : I a w) : Goes P ro f Q (.code (.loop c) :: k) a w := by
  have key : ∀ n a w, μ a w = n → I a w → Goes P ro f Q (.code c :: .inLoop c :: k) a w := by
    intro n
    induction n using Nat.strongRecOn with
    | _ n ih => exact fun a w hn hI => round a w hI fun a' w' hI' hlt => Goes.inLoop (ih (μ a' w') (hn ▸ hlt) a' w' rfl hI')
  exact Goes.loop1 (key _ a w rfl h)

/-! ### One operation -/

/-- A round of a range over a function. -/
def Round (P : Program) (l : Nat) (f : FuncId) (tmps : Array Value) (assign body : Code) (w : World) (R : Value → World → Prop) : Prop :=
  ∀ (c : Frame) (cs : List Frame), ∃ v w', R v w' ∧ Steps P (lone (Frame.round l f tmps assign body .normal) (c :: cs) w) (lone (c.finish v) cs w')

theorem Round.mono {l : Nat} {tmps : Array Value} {assign body : Code} {R R' : Value → World → Prop} (hr : ∀ v w, R v w → R' v w) (h : Round P l f tmps assign body w R) : Round P l f tmps assign body w R' :=
  fun c cs => let ⟨v, w', r, s⟩ := h c cs; ⟨v, w', hr _ _ r, s⟩

def upon (P : Program) (K : Value → World → Prop) : Result Next → Prop
  | .ok (.value v) w' => K v w'
  | .ok .skip w' => K undef w'
  | .ok (.enter g args) w' => Calls P g args w' fun e w'' => ∃ v, e = .returned v ∧ K v w''
  | .ok (.round l f tmps assign body) w' => Round P l f tmps assign body w' K
  | _ => False

def OpGo (P : Program) (o : Oper) (a : Act) (w : World) (K : Act → World → Prop) : Prop :=
  upon P (fun v w' => K (a.put o.dst v) w') ((execOp a.eval o).run P w)

theorem upon_mono {K K' : Value → World → Prop} (h : ∀ v w, K v w → K' v w) {r : Result Next} (hh : upon P K r) : upon P K' r := by
  cases r with
  | ok n w' =>
    cases n <;> simp only [upon] at hh ⊢
    case value => exact h _ _ hh
    case skip => exact h _ _ hh
    case enter => exact hh.mono fun e w'' ⟨v, hv, hk⟩ => ⟨v, hv, h _ _ hk⟩
    case round => exact Round.mono h hh
  | halt x w' => exact hh.elim

theorem OpGo.mono {o : Oper} {K K' : Act → World → Prop} (h : ∀ a w, K a w → K' a w) (hh : OpGo P o a w K) : OpGo P o a w K' := upon_mono (fun _ _ => h _ _) hh

theorem OpGo.value {o : Oper} {K : Act → World → Prop} {v : Value} (hr : (execOp a.eval o).run P w = .ok (.value v) w') (h : K (a.put o.dst v) w') : OpGo P o a w K := by
  unfold OpGo; rw [hr]; exact h
theorem OpGo.skip {o : Oper} {K : Act → World → Prop} (hr : (execOp a.eval o).run P w = .ok .skip w') (h : K (a.put o.dst undef) w') : OpGo P o a w K := by
  unfold OpGo; rw [hr]; exact h
theorem OpGo.enter {o : Oper} {K : Act → World → Prop} {g : FuncId} {args : Array Value} (hr : (execOp a.eval o).run P w = .ok (.enter g args) w')
    (h : Calls P g args w' fun e w'' => ∃ v, e = .returned v ∧ K (a.put o.dst v) w'') : OpGo P o a w K := by
  unfold OpGo; rw [hr]; exact h

theorem Goes.op {ops : Array Oper} {i : Nat} {rest : List Nat} {o : Oper} (ho : ops[i]? = some o) (hw : Region.wanted o (yielded ops a.tmps) = true)
    (h : OpGo P o a w (Goes P ro f Q (.inRegion ops rest :: k))) : Goes P ro f Q (.inRegion ops (i :: rest) :: k) a w := by
  intro b cs hf hk hr
  have hg := stepGR_op (P := P) (b := b) (a := a) (k := k) (cs := cs) (w := w) (rest := rest) ho hw
  have hfin : ∀ v, (b.atR a (.inRegion ops (i :: rest) :: k)).finish v = b.atR (a.put o.dst v) (.inRegion ops rest :: k) := by
    intro v; rw [Frame.finish_atR, ho]; rfl
  unfold OpGo at h
  have hnd : ∀ c, o.op ≠ .defer c := by
    intro c hc
    have : (execOp a.eval o).run P w = (do pure (.defer (← resolve a.eval c o.type)) : Sem Next).run P w := by unfold execOp; rw [hc]
    rw [this, Sem.run_bind] at h
    cases hr : (resolve a.eval c o.type).run P w <;> rw [hr] at h <;> simp [Result.andThen, upon] at h
  rw [Oper.semAt_eq _ _ _ hnd] at hg
  generalize hrun : (execOp a.eval o).run P w = r at h
  cases r with
  | halt x w' => exact h.elim
  | ok n w' =>
    cases n <;> simp only [upon] at h <;> try exact h.elim
    case value v =>
      obtain ⟨x, a1, w1, k1, hq, hok, hst⟩ := h b cs hf hk hr
      exact ⟨x, a1, w1, k1, hq, hok, .head (step_lone_go (by rw [hg, ← hfin]; simp [stepG.apply, hrun])) hst⟩
    case skip =>
      obtain ⟨x, a1, w1, k1, hq, hok, hst⟩ := h b cs hf hk hr
      exact ⟨x, a1, w1, k1, hq, hok, .head (step_lone_go (by rw [hg, ← hfin]; simp [stepG.apply, hrun])) hst⟩
    case enter g args =>
      obtain ⟨e, w'', fr, ⟨v, rfl, hR⟩, hsteps, _, hleave⟩ := h (b.atR a (.inRegion ops (i :: rest) :: k) :: cs)
      have henter : step P (lone (b.atR a (.inRegion ops (i :: rest) :: k)) cs w) =
          .next (lone (Frame.enter P g args .normal) (b.atR a (.inRegion ops (i :: rest) :: k) :: cs) w') :=
        step_lone_go (by rw [hg]; simp [stepG.apply, hrun, Frame.atR])
      obtain ⟨x, a1, w1, k1, hq, hok, hst⟩ := hR b cs hf hk hr
      refine ⟨x, a1, w1, k1, hq, hok, .head henter (Steps.trans hsteps (.head ?_ hst))⟩
      rw [← hfin]; exact step_leave_returned hleave
    case round l g tmps assign body =>
      obtain ⟨v, w'', hR, hsteps⟩ := h (b.atR a (.inRegion ops (i :: rest) :: k)) cs
      have henter : step P (lone (b.atR a (.inRegion ops (i :: rest) :: k)) cs w) =
          .next (lone (Frame.round l g tmps assign body .normal) (b.atR a (.inRegion ops (i :: rest) :: k) :: cs) w') :=
        step_lone_go (by rw [hg]; simp [stepG.apply, hrun])
      obtain ⟨x, a1, w1, k1, hq, hok, hst⟩ := hR b cs hf hk hr
      refine ⟨x, a1, w1, k1, hq, hok, .head henter (Steps.trans hsteps ?_)⟩
      rw [hfin]; exact hst

theorem Goes.opSkip {ops : Array Oper} {i : Nat} {rest : List Nat} {o : Oper} (ho : ops[i]? = some o) (hw : Region.wanted o (yielded ops a.tmps) = false)
    (h : Goes P ro f Q (.inRegion ops rest :: k) (a.put o.dst undef) w) : Goes P ro f Q (.inRegion ops (i :: rest) :: k) a w :=
  Goes.by_steps (fun b cs _ _ => by
    have := stepR_op_skip (P := P) (b := b) (a := a) (k := k) (cs := cs) (w := w) (ops := ops) (i := i) (rest := rest) (by simp [ho, hw])
    rw [ho] at this; exact .one this) h
theorem Goes.opNone {ops : Array Oper} {i : Nat} {rest : List Nat} (ho : ops[i]? = none) (h : Goes P ro f Q (.inRegion ops rest :: k) a w) : Goes P ro f Q (.inRegion ops (i :: rest) :: k) a w :=
  Goes.by_steps (fun b cs _ _ => by
    have := stepR_op_skip (P := P) (b := b) (a := a) (k := k) (cs := cs) (w := w) (ops := ops) (i := i) (rest := rest) (by simp [ho])
    rw [ho] at this; exact .one this) h
theorem Goes.regionEnd {ops : Array Oper} (h : Goes P ro f Q k a w) : Goes P ro f Q (.inRegion ops [] :: k) a w := Goes.by_steps (fun _ _ _ _ => .one stepR_region_end) h
theorem Goes.region {id : Nat} {ops : Array Oper} (h : Goes P ro f Q (.inRegion ops (List.range ops.size) :: k) a w) : Goes P ro f Q (.code (.region id ops false) :: k) a w :=
  Goes.by_steps (fun _ _ _ _ => .one stepR_region) h

/-! ### A region whose order is drawn -/

def wop (P : Program) (ops : Array Oper) (i : Nat) (K : Act → World → Prop) (a : Act) (w : World) : Prop :=
  match ops[i]? with
  | none => K a w
  | some o => if Region.wanted o (yielded ops a.tmps) then OpGo P o a w K else K (a.put o.dst undef) w

theorem wop_mono {ops : Array Oper} {i : Nat} {K K' : Act → World → Prop} (h : ∀ a w, K a w → K' a w) (hh : wop P ops i K a w) : wop P ops i K' a w := by
  unfold wop at *
  split
  · exact h _ _ (by simpa [*] using hh)
  · rename_i o ho
    simp only [ho] at hh
    split
    · rename_i hw; simp only [hw, if_true] at hh; exact hh.mono h
    · rename_i hw; simp only [hw] at hh; exact h _ _ hh

abbrev rdy (ops : Array Oper) (listed : Array Bool) : List Nat := Region.ready .any ops listed

/-- What has come is 'listed'; whichever of those that may come next comes; S holds behind each that is carried out; at the end D. -/
def Any (P : Program) (ops : Array Oper) (S : World → Prop) (D : Act → World → Prop) : Nat → Array Bool → Act → World → Prop
  | 0, listed, a, w => rdy ops listed = [] ∧ D a w
  | n + 1, listed, a, w => (rdy ops listed = [] → D a w) ∧ ∀ i ∈ rdy ops listed, wop P ops i (fun a' w' => S w' ∧ Any P ops S D n (listed.setIfInBounds i true) a' w') a w

theorem Goes.ofAny {ops : Array Oper} {S : World → Prop} : ∀ (n t : Nat) (listed : Array Bool) (a : Act) (w : World), Any P ops S (Goes P ro f Q k) n listed a w →
    Goes P ro f Q (.inRegion ops (Region.linearise.go .any ops n t listed []) :: k) a w := by
  intro n
  induction n with
  | zero => intro t listed a w h; exact Goes.regionEnd h.2
  | succ n ih =>
    intro t listed a w h
    obtain ⟨h₀, h₁⟩ := h
    simp only [Region.linearise.go]
    change Goes P ro f Q (.inRegion ops (match (rdy ops listed)[t % (rdy ops listed).length]? with
      | some i => Region.linearise.go .any ops n (t / (rdy ops listed).length) (listed.setIfInBounds i true) [i]
      | none => [].reverse) :: k) a w
    cases hi : (rdy ops listed)[t % (rdy ops listed).length]? with
    | none =>
      have hnil : rdy ops listed = [] := by
        cases hr : rdy ops listed with
        | nil => rfl
        | cons x xs =>
          rw [hr] at hi
          have hlt : t % (x :: xs).length < (x :: xs).length := Nat.mod_lt _ (by simp)
          simp at hi
          simp at hlt
          omega
      simp only [List.reverse_nil]
      exact Goes.regionEnd (h₀ hnil)
    | some i =>
      simp only []
      rw [linearise_go_acc, List.reverse_singleton, List.singleton_append]
      have hw := wop_mono (fun a w h => ih (t / (rdy ops listed).length) _ a w h.2) (h₁ i (List.mem_of_getElem? hi))
      unfold wop at hw
      cases ho : ops[i]? with
      | none => rw [ho] at hw; exact Goes.opNone ho hw
      | some o =>
        simp only [ho] at hw
        by_cases hwn : Region.wanted o (yielded ops a.tmps) = true
        · rw [if_pos hwn] at hw; exact Goes.op ho hwn hw
        · rw [if_neg hwn] at hw; exact Goes.opSkip ho (by simpa using hwn) hw

theorem Goes.draw {id : Nat} {ops : Array Oper} {S : World → Prop} (hm : P.follows .mixedOrders = true)
    (h : Any P ops S (Goes P ro f Q k) ops.size (Array.replicate ops.size false) a w.drew) : Goes P ro f Q (.code (.region id ops true) :: k) a w := by
  intro b cs hf hk hr
  have hh := Goes.ofAny (P := P) (ro := ro) (f := f) (Q := Q) (k := k) ops.size (w.tape w.drawn (.order b.fn id)) _ a _ h
  obtain ⟨x, a1, w1, k1, hq, hok, hst⟩ := hh b cs hf hk hr
  refine ⟨x, a1, w1, k1, hq, hok, .head stepR_region_draw ?_⟩
  simp only [Region.schedule, hm, Bool.true_or, if_true]
  exact hst

/-- In state a, in every world that meets S, o leaves v in its slot and does nothing else. -/
def Yl (P : Program) (ops : Array Oper) (S : World → Prop) (o : Oper) (v : Value) (a : Act) : Prop :=
  (Region.wanted o (yielded ops a.tmps) = true ∧ ∀ w, S w → (execOp a.eval o).run P w = .ok (.value v) w) ∨
  (Region.wanted o (yielded ops a.tmps) = false ∧ v = undef)

theorem Yl.wop {ops : Array Oper} {S : World → Prop} {i : Nat} {o : Oper} {v : Value} (hi : ops[i]? = some o) (hy : Yl P ops S o v a)
    {K : Act → World → Prop} (hS : S w) (h : K (a.put o.dst v) w) : wop P ops i K a w := by
  unfold Go.E.wop
  simp only [hi]
  rcases hy with ⟨hw, hv⟩ | ⟨hw, rfl⟩
  · simp only [hw, if_true]; exact OpGo.value (hv w hS) h
  · simp only [hw, Bool.false_eq_true, if_false]; exact h

theorem Yl.of_same {ops : Array Oper} {S : World → Prop} {o : Oper} {v : Value} {a a' : Act} (hy : Yl P ops S o v a) (he : execOp a'.eval o = execOp a.eval o)
    (hw : Region.wanted o (yielded ops a'.tmps) = Region.wanted o (yielded ops a.tmps)) : Yl P ops S o v a' := by
  unfold Yl at *; rw [he, hw]; exact hy

theorem wop_put {ops : Array Oper} {S : World → Prop} {j : Nat} {oi oj : Oper} {v : Value} (hj : ops[j]? = some oj) (hap : oi.apart ops oj = true)
    (hsi : ∀ cs b, oi.op ≠ .select cs b) (hsj : ∀ cs b, oj.op ≠ .select cs b) {K : Act → World → Prop} {a : Act} {w : World}
    (hy : Yl P ops S oi v a) (h : wop P ops j K (a.put oi.dst v) w) :
    wop P ops j (fun a' w' => Yl P ops S oi v a' ∧ K (a'.put oi.dst v) w') a w := by
  obtain ⟨h1, h2, h3⟩ := Oper.apart_spec hap
  have keep : ∀ (a : Act), Yl P ops S oi v a → ∀ u, Yl P ops S oi v (a.put oj.dst u) := fun a hy u =>
    hy.of_same (execOp_put oi hsi a oj.dst u h3) (wanted_put oi a oj.dst u h3)
  unfold wop at *
  simp only [hj] at *
  rw [wanted_put oj a oi.dst v h1] at h
  split
  · rename_i hw
    simp only [hw, if_true] at h
    unfold OpGo at *
    rw [execOp_put oj hsj a oi.dst v h1] at h
    exact upon_mono (fun u w' hk => ⟨keep a hy u, by rw [← Act.put_comm a v u h2]; exact hk⟩) h
  · rename_i hw
    simp only [hw] at h
    exact ⟨keep a hy _, by rw [← Act.put_comm a v undef h2]; exact h⟩

theorem Any.first {ops : Array Oper} {S : World → Prop} {D : Act → World → Prop} {i : Nat} {oi : Oper} {v : Value} (hi : ops[i]? = some oi)
    (hsel : ∀ (j : Nat) (o : Oper) cs b, ops[j]? = some o → o.op ≠ .select cs b) :
    ∀ (n : Nat) (listed : Array Bool) (a : Act) (w : World),
      (∀ j oj, ops[j]? = some oj → j ≠ i → listed.getD j true = false → (∀ e ∈ oj.after, Region.binds .any e = true → e.on ≠ i) → oi.apart ops oj = true) →
      i ∈ rdy ops listed → Yl P ops S oi v a → S w →
      Any P ops S D n (listed.setIfInBounds i true) (a.put oi.dst v) w → Any P ops S D (n + 1) listed a w := by
  intro n
  induction n with
  | zero =>
    intro listed a w _ hr hy hS H
    refine ⟨fun h => (by rw [h] at hr; cases hr), fun j hj => ?_⟩
    by_cases hji : j = i
    · subst hji; exact hy.wop hi hS ⟨hS, H⟩
    · have := ready_mono hj hji
      rw [show Region.ready .any ops (listed.setIfInBounds i true) = [] from H.1] at this
      cases this
  | succ n ih =>
    intro listed a w hfree hr hy hS H
    refine ⟨fun h => (by rw [h] at hr; cases hr), fun j hj => ?_⟩
    by_cases hji : j = i
    · subst hji; exact hy.wop hi hS ⟨hS, H⟩
    · have h1 := H.2 j (ready_mono hj hji)
      obtain ⟨hjun, oj, hoj, hall⟩ := mem_ready.1 hj
      have hnot : ∀ e ∈ oj.after, Region.binds .any e = true → e.on ≠ i := fun e he hb heq => by
        have h1 := hall e he hb
        have h0 := (mem_ready.1 hr).1
        rw [heq] at h1
        rcases Nat.lt_or_ge i listed.size with h' | h'
        · simp [h'] at h0 h1; rw [h0] at h1; cases h1
        · simp [Array.getElem?_eq_none h'] at h1
      have h2 := wop_put hoj (hfree j oj hoj hji hjun hnot) (fun cs b => hsel i oi cs b hi) (fun cs b => hsel j oj cs b hoj) hy h1
      have hfree' : ∀ k ok, ops[k]? = some ok → k ≠ i → (listed.setIfInBounds j true).getD k true = false →
          (∀ e ∈ ok.after, Region.binds .any e = true → e.on ≠ i) → oi.apart ops ok = true := fun k ok hk hki hun hno => by
        refine hfree k ok hk hki ?_ hno
        by_cases hjk : j = k
        · subst hjk; exact hjun
        · rw [getD_set_ne true hjk] at hun; exact hun
      refine wop_mono (fun a' w' h3 => ⟨h3.2.1, ih (listed.setIfInBounds j true) a' w' hfree' (ready_mono hr (Ne.symm hji)) h3.1 h3.2.1 ?_⟩) h2
      rw [Array.setIfInBounds_comm _ _ hji]
      exact h3.2.2

/-- Take number i first: it may come, yields v wherever S holds, and nobody who could come before it touches its slots. -/
theorem Any.take {ops : Array Oper} {S : World → Prop} {D : Act → World → Prop} {i : Nat} {oi : Oper} {v : Value} {n : Nat} {listed : Array Bool} (hi : ops[i]? = some oi)
    (hs : Region.noSelect ops = true) (hf : Region.free .any ops listed i = true) (hr : (rdy ops listed).contains i = true) (hy : Yl P ops S oi v a) (hS : S w)
    (h : Any P ops S D n (listed.setIfInBounds i true) (a.put oi.dst v) w) : Any P ops S D (n + 1) listed a w :=
  Any.first hi (Region.noSelect_spec hs) n listed a w (Region.free_spec hi hf) (by simpa using hr) hy hS h

theorem Any.all {ops : Array Oper} {S : World → Prop} {D : Act → World → Prop} {rs : List Nat} {n : Nat} {listed : Array Bool} (hr : rdy ops listed = rs) (hne : rs ≠ [])
    (h : ∀ i ∈ rs, wop P ops i (fun a' w' => S w' ∧ Any P ops S D n (listed.setIfInBounds i true) a' w') a w) : Any P ops S D (n + 1) listed a w :=
  ⟨fun h0 => absurd (hr ▸ h0) hne, hr ▸ h⟩

theorem Any.done {ops : Array Oper} {S : World → Prop} {D : Act → World → Prop} {listed : Array Bool} (hr : rdy ops listed = []) (h : D a w) : ∀ n, Any P ops S D n listed a w
  | 0 => ⟨hr, h⟩
  | _ + 1 => ⟨fun _ => h, by rw [hr]; simp⟩

/-! ### A call -/
theorem calls_of_goes {fn : Func} {c : Code} {args : Array Value} {R : Ending → World → Prop} (hf : P.funcs[f]? = some fn) (hb : fn.body = some c)
    (h : Goes P none f (fun x a w => (∀ id, x ≠ .exit id) ∧ a.defers = [] ∧ ∃ v, (results fn a.tmps).run P w = .ok v w ∧ R (.returned v) w) [.code c]
      { tmps := args ++ Array.replicate (fn.ntmps - args.size) undef, defers := [] } w) : Calls P f args w R := by
  intro cs
  let b : Frame := { (default : Frame) with fn := f, kind := .normal }
  have henter : Frame.enter P f args .normal = b.atR { tmps := args ++ Array.replicate (fn.ntmps - args.size) undef, defers := [] } [.code c] := by
    simp [Frame.enter, Frame.atR, hf, hb, b]
    rfl
  obtain ⟨x, a', w', k, ⟨hx, hd, v, hr, hR⟩, _, hst⟩ := h b cs rfl rfl rfl
  rw [← henter] at hst
  cases x with
  | fin => exact ⟨.returned v, w', _, hR, Steps.trans hst (.one (stepR_end rfl)), rfl, rfl, hd, rfl, fn, hf, hr⟩
  | ret => exact ⟨.returned v, w', _, hR, Steps.trans hst (.one (stepR_ret rfl)), rfl, rfl, hd, rfl, fn, hf, hr⟩
  | exit id => exact (hx id rfl).elim

end
end Go.E
