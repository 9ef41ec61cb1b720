/-
  What may be read: 'Rd': from a slice's first cell on, a world holds a list; contracts that only read, and lay new blocks, are told of the world in which they begin ('Sat.trans').
-/
import Derived.Test.YtlgggljlegpaoaaE16
import Derived.Laws.BytesArg
namespace Go.E
open Go.RowKit

section
variable {P : Program} {w w' w0 : World}

/-- Beside all blocks of w, w' holds G; w itself holds F beside those of w0. -/
theorem Sat.trans {F G : HP} (h : Sat w0 F w) (k : Sat w G w') : Sat w0 (G * F) w' := by
  refine ⟨k.os.trans h.os, k.tape.trans h.tape, k.output.trans h.output, Nat.le_trans h.size k.size, ?_⟩
  obtain ⟨x, ⟨h1, h2, hd, hh, hp, hq⟩, hx⟩ := h.holds
  obtain ⟨y, ⟨g1, g2, gd, gh, gp, gq⟩, gx⟩ := k.holds
  have in1 : ∀ j o, h1 j = some o → g1 j = some o := fun j o e => by
    rw [gp j]; exact hx j o (by rw [hh j, e]; rfl)
  have in2 : ∀ j o, h2 j = some o → g1 j = some o := fun j o e => by
    rw [gp j]
    refine hx j o ?_
    rw [hh j]
    rcases hd j with e' | e'
    · rw [e', e]; rfl
    · rw [e'] at e; cases e
  have dis : ∀ j, h1 j = none ∨ g2 j = none := fun j => by
    rcases gd j with e | e
    · cases e1 : h1 j with
      | none => exact .inl rfl
      | some o => rw [in1 j o e1] at e; cases e
    · exact .inr e
  have dis2 : ∀ j, g2 j = none ∨ h2 j = none := fun j => by
    rcases gd j with e | e
    · cases e1 : h2 j with
      | none => exact .inr rfl
      | some o => rw [in2 j o e1] at e; cases e
    · exact .inl e
  refine ⟨fun j => (h1 j).or ((g2 j).or (h2 j)), ⟨h1, fun j => (g2 j).or (h2 j), fun j => ?_, fun _ => rfl, hp, g2, h2, dis2, fun _ => rfl, gq, hq⟩, fun j o hj => ?_⟩
  · rcases dis j with e | e
    · exact .inl e
    · rcases hd j with e' | e'
      · exact .inl e'
      · right; show (g2 j).or (h2 j) = none; rw [e, e']; rfl
  · refine gx j o ?_
    replace hj : (h1 j).or ((g2 j).or (h2 j)) = some o := hj
    rw [gh j]
    cases e1 : h1 j with
    | some u =>
      rw [e1] at hj
      simp only [Option.some_or] at hj ⊢
      rw [in1 j u e1]; exact hj
    | none =>
      rw [e1] at hj
      simp only [Option.none_or] at hj
      cases e2 : g2 j with
      | some u =>
        rw [e2] at hj
        rcases gd j with e | e
        · rw [e]; exact hj
        · rw [e2] at e; cases e
      | none =>
        rw [e2] at hj
        simp only [Option.none_or] at hj
        rw [in2 j o hj]; rfl

/-- All is let go. -/
theorem Sat.one {F : HP} (h : Sat w0 F w) : Sat w0 1 w := (h.eq (mul_one F).symm).right

/-- From the first cell of a slice on, w holds l. -/
def Rd (w : World) (base : Option Addr) (l : List Value) : Prop := l = [] ∨ ∃ a, base = some a ∧ a.block < w.heap.size ∧ ∀ j u, l[j]? = some u → w.cell? (a.add j) = some u

theorem Rd.nil (w : World) (base : Option Addr) : Rd w base [] := .inl rfl
theorem Rd.isSome {base : Option Addr} {l : List Value} (h : Rd w base l) {k : Nat} {u : Value} (hk : l[k]? = some u) : base.isSome = true := by
  rcases h with rfl | ⟨a, rfl, _⟩
  · simp at hk
  · rfl
theorem Addr.add_add (a : Addr) (j k : Nat) : (a.add j).add k = a.add (j + k) := by
  unfold Addr.add
  by_cases h1 : j = 0
  · subst h1; simp
  · by_cases h2 : k = 0
    · subst h2; simp [h1]
    · simp [h1, h2, Nat.add_assoc]
theorem Addr.add_block (a : Addr) (j : Nat) : (a.add j).block = a.block := by unfold Addr.add; split <;> rfl

/-- A cell of it, as a load through a pointer asks for it. -/
theorem Rd.cell {base : Option Addr} {l : List Value} (h : Rd w base l) {k j : Nat} {u : Value} (hk : l[k + j]? = some u) : aCell w (adr base k) j = some u := by
  rcases h with rfl | ⟨a, rfl, hb, hc⟩
  · simp at hk
  · unfold aCell adr
    simp only [Option.getD_some]
    rw [Addr.add_block, if_pos hb, Addr.add_add]
    exact hc _ _ hk
theorem Rd.field {base : Option Addr} {l : List Value} (h : Rd w base l) {k off j : Nat} {u : Value} (hk : l[k + off + j]? = some u) : aCell w ((adr base k).add off) j = some u := by
  have := h.cell (k := k + off) hk
  unfold adr at this ⊢
  rwa [Addr.add_add]

theorem Rd.part {base : Option Addr} {l m : List Value} {k : Nat} (h : Rd w base l) (hm : At l k m) : Rd w (base.map fun a => a.add k) m := by
  cases m with
  | nil => exact .inl rfl
  | cons x r =>
    rcases h with rfl | ⟨a, rfl, hb, hc⟩
    · have := hm 0 x rfl; simp at this
    · refine .inr ⟨a.add k, rfl, by rw [Addr.add_block]; exact hb, fun j u hj => ?_⟩
      rw [Addr.add_add]; exact hc _ _ (hm j u hj)
theorem Rd.pre {base : Option Addr} {l m : List Value} (h : Rd w base l) (hm : At l 0 m) : Rd w base m := by
  have := h.part hm
  have e : (base.map fun a => a.add 0) = base := by cases base <;> rfl
  rwa [e] at this

theorem Rd.keep {base : Option Addr} {l : List Value} (h : Rd w base l) (hs : w.heap.size ≤ w'.heap.size) (hk : ∀ k, k < w.heap.size → w'.heap[k]? = w.heap[k]?) : Rd w' base l := by
  rcases h with rfl | ⟨a, rfl, hb, hc⟩
  · exact .inl rfl
  · refine .inr ⟨a, rfl, by omega, fun j u hj => ?_⟩
    rw [World.cell?_of_block (w := w) (by rw [Addr.add_block]; exact hk _ hb)]
    exact hc j u hj
theorem Rd.sat {base : Option Addr} {l : List Value} {F : HP} (h : Rd w base l) (hs : Sat w F w') : Rd w' base l := h.keep hs.size fun _ hk => hs.holds.base_get hk
theorem Rd.drew {base : Option Addr} {l : List Value} (h : Rd w base l) : Rd w.drew base l := h

theorem Rd.of_own {e : TypeId} {sz n c : Nat} {base : Option Addr} {l : List Value} {F : HP} (h : Sat w0 (own e sz base n c l * F) w) : Rd w base l := by
  rcases own_cases h with ⟨rfl, rfl, rfl, rfl, _⟩ | ⟨s, ⟨rfl, _⟩, hF⟩
  · exact .inl rfl
  · exact .inr ⟨_, rfl, (Array.getElem?_eq_some_iff.1 hF.get).1, strip_cell hF.get⟩

theorem Rd.src {tx e' : TypeId} {sz n c : Nat} {base : Option Addr} {l : List Value} (h : Rd w base l) (hk : P.underlying tx = some (.slice e')) (hl : l.length = n * sz) (h1 : ∀ u ∈ l, Value.one u = true) (hn : base = none → n = 0) : Src P sz tx (.slice base n c) n l w := by
  cases base with
  | none =>
    obtain rfl := hn rfl
    have : l = [] := List.eq_nil_of_length_eq_zero (by rw [hl, Nat.zero_mul])
    subst this
    exact Src.ofNil w hk c
  | some a =>
    refine Src.ofSlice w hk a n c l hl (fun j u hj => ?_) fun u hu => (one_oneCell u).symm.trans (h1 u hu)
    rcases h with rfl | ⟨b, hb, _, hc⟩
    · simp at hj
    · cases hb; exact hc j u hj

/-- Octets that may be read, as a string. -/
theorem Rd.str {src dst e : TypeId} {base : Option Addr} {n c : Nat} {xs : List Int} (hs : P.underlying src = some (.slice e)) (he : P.underlying e = some (.int .u8)) (hd : P.underlying dst = some .string) (hn : xs.length = n)
    (h : Rd w base (xs.map (Value.int .u8))) : (convert src dst (.slice base n c)).run P w = .ok (.string (strOfNums xs)) w := by
  cases base with
  | none =>
    have : xs = [] := by
      rcases h with h | ⟨_, h, _⟩
      · exact List.map_eq_nil_iff.1 h
      · cases h
    subst this
    exact run_convert_bytes_nil w src e hs he n c dst hd
  | some a =>
    have hc : ∀ j u, (xs.map (Value.int .u8))[j]? = some u → w.cell? (a.add j) = some u := by
      rcases h with h | ⟨b, hb, _, hc⟩
      · intro j u hj; rw [h] at hj; simp at hj
      · cases hb; exact hc
    have hl : (loadCells a n).run P w = .ok (xs.map (Value.int .u8)).toArray w := by
      have := run_loadCells_list (P := P) w a (xs.map (Value.int .u8)) hc
      simpa [hn] using this
    rw [run_convert_bytes_string w src dst e _ n c hs he hd, run_bytesToString w _ n c xs hl, foldl_push_bytes]
    simp [strOfNums, ByteArray.empty, ByteArray.emptyWithCapacity]
    rfl

end

section
variable {P : Program} {ro : Option Nat} {f : FuncId} {Q : Leave → Act → World → Prop} {cfg : Cfg} {ds : List Deferred} {F : HP}
variable {β : List Nat} {fr : Fr} {H : Hp} {stk : List It}

/-- What stands beside is let go. -/
theorem Go.drop {G : HP} (h : Go P ro f Q cfg ds F β fr H stk) : Go P ro f Q cfg ds (G * F) β fr H stk := fun a w hR =>
  h a w ⟨hR.size, hR.defers, hR.agree, hR.gd, ((hR.sat : Sat cfg.w0 (satH cfg.w0 β H * (G * F)) w).eq (star_left _ _ _)).right⟩
theorem Go.reF {G : HP} (e : F = G) (h : Go P ro f Q cfg ds G β fr H stk) : Go P ro f Q cfg ds F β fr H stk := e ▸ h

/-- A slice that is owned is opened: its block is known by name. -/
theorem Go.openOwn {e : TypeId} {sz n c : Nat} {base : Option Addr} {l : List Value} (hn : 0 < n) (hl : H.lt β.length = true)
    (hs : ∀ b, StkGo P ro f Q cfg (β ++ [b]) stk = StkGo P ro f Q cfg β stk)
    (h : ∀ S : Strip, stripOk sz base n c l S → ∃ fr', FrEq β fr (β ++ [S.b]) fr' ∧ noGd fr' = true ∧ Go P ro f Q cfg ds F (β ++ [S.b]) fr' ((β.length, .arr (S.pre ++ l ++ S.spare) e) :: H) stk) :
    Go P ro f Q cfg ds (own e sz base n c l * F) β fr H stk := by
  intro a w hR
  have h1 : Sat cfg.w0 (own e sz base n c l * (satH cfg.w0 β H * F)) w := (hR.sat : Sat cfg.w0 (satH cfg.w0 β H * (own e sz base n c l * F)) w).eq (star_left _ _ _)
  rcases own_cases h1 with ⟨_, h0, _⟩ | ⟨S, hS, hF⟩
  · omega
  obtain ⟨fr', g1, g2, g3⟩ := h S hS
  have h2 : Sat cfg.w0 (satH cfg.w0 (β ++ [S.b]) ((β.length, .arr (S.pre ++ l ++ S.spare) e) :: H) * F) w := by
    simp only [satH]
    rw [satH_append hl, star_assoc, show atom cfg.w0 (β ++ [S.b]) β.length (.arr (S.pre ++ l ++ S.spare) e) = pt S.b (.cells (S.pre ++ l ++ S.spare).toArray e) by simp [atom, denO, bk]]
    exact hF
  have := g3 a w ⟨hR.size, hR.defers, g1.agree hR.agree, noGd_spec g2, h2⟩
  rwa [hs] at this

/-- A call whose contract is told of the world in which it begins: it lays new blocks alone. -/
theorem Go.callT {p : List Nat} {i : Nat} {rest : List Nat} {k : List It} {o : Oper} {g : FuncId} {l : List LV} (ho : (opsOf (sub cfg.c0 p))[i]? = some o) (hg : guardOf fr (opsOf (sub cfg.c0 p)) o = .yes)
    (hd : okDst cfg.N o.dst = true) (hc : callOf fr o = some (g, l)) (hp : plainFn P g = true) (hn : noGd fr = true)
    (h : ∀ w, Sat cfg.w0 (satH cfg.w0 β H * F) w → Calls P g (denL β l).toArray w fun e w' => ∃ lv G, e = .returned (den β lv) ∧ lv.isGd = false ∧ Sat w G w' ∧ Go P ro f Q cfg ds (G * F) β (putS fr o.dst lv) H (.reg p rest :: k)) :
    Go P ro f Q cfg ds F β fr H (.reg p (i :: rest) :: k) :=
  Go.call ho hg hd hc hp fun w hs => (h w hs).mono fun _ _ ⟨lv, G, e1, e2, e3, e4⟩ => ⟨_, e1, β, fr, H, G * F, lv, rfl, e2, FrEq.refl β fr, hn, (hs.trans e3).eq (star_left _ _ _), e4⟩

theorem Go.callDT {p : List Nat} {m n Z i : Nat} {HS : Hp} {k : List It} {o : Oper} {g : FuncId} {l : List LV} (ho : (opsOf (sub cfg.c0 p))[i]? = some o) (hg : guardOf fr (opsOf (sub cfg.c0 p)) o = .yes) (hd : okDst cfg.N o.dst = true)
    (hc : callOf fr o = some (g, l)) (hp : plainFn P g = true) (hl : fr.lt β.length = true) (hH : HS.lt β.length = true) (hHS : HS = H)
    (h : ∀ w, Sat cfg.w0 (satH cfg.w0 β H * F) w → Calls P g (denL β l).toArray w fun e w' => ∃ lv G, e = .returned (den β lv) ∧ lv.isGd = false ∧ Sat w G w' ∧
      Go P ro f Q cfg ds (G * F) β (putS fr o.dst lv) H (.dreg p (m ||| 2 ^ i) n Z HS :: k)) :
    Go P ro f Q cfg ds F β fr H (.dop p m n Z HS i :: k) :=
  Go.callD ho hg hd hc hp hl hH fun w hs => (h w hs).mono fun _ w' ⟨lv, G, e1, e2, e3, e4⟩ => by
    have hs2 : Sat cfg.w0 (satH cfg.w0 β H * (G * F)) w' := (hs.trans e3).eq (star_left _ _ _)
    refine ⟨_, e1, [], H, G * F, lv, ?_, e2, ?_, fun _ => ?_, ?_⟩
    · rw [List.append_nil]
    · rw [List.append_nil]; exact hs2
    · rw [List.append_nil, hHS]; exact HSat.look hs2
    · rw [List.append_nil]; exact e4

/-- The same, where all loads of the region are done. -/
theorem Go.callZT {p : List Nat} {m n Z i : Nat} {HS : Hp} {k : List It} {o : Oper} {g : FuncId} {l : List LV} (ho : (opsOf (sub cfg.c0 p))[i]? = some o) (hg : guardOf fr (opsOf (sub cfg.c0 p)) o = .yes) (hd : okDst cfg.N o.dst = true)
    (hc : callOf fr o = some (g, l)) (hp : plainFn P g = true) (hl : fr.lt β.length = true) (hH : HS.lt β.length = true) (hzd : zdone Z (opsOf (sub cfg.c0 p)).size (lst (opsOf (sub cfg.c0 p)).size m) = true)
    (h : ∀ w, Sat cfg.w0 (satH cfg.w0 β H * F) w → Calls P g (denL β l).toArray w fun e w' => ∃ lv G, e = .returned (den β lv) ∧ lv.isGd = false ∧ Sat w G w' ∧
      Go P ro f Q cfg ds (G * F) β (putS fr o.dst lv) H (.dreg p (m ||| 2 ^ i) n Z HS :: k)) :
    Go P ro f Q cfg ds F β fr H (.dop p m n Z HS i :: k) :=
  Go.callD ho hg hd hc hp hl hH fun w hs => (h w hs).mono fun _ w' ⟨lv, G, e1, e2, e3, e4⟩ => by
    have hs2 : Sat cfg.w0 (satH cfg.w0 β H * (G * F)) w' := (hs.trans e3).eq (star_left _ _ _)
    refine ⟨_, e1, [], H, G * F, lv, ?_, e2, ?_, fun hz => ?_, ?_⟩
    · rw [List.append_nil]
    · rw [List.append_nil]; exact hs2
    · rw [hzd] at hz; cases hz
    · rw [List.append_nil]; exact e4

end
end Go.E
