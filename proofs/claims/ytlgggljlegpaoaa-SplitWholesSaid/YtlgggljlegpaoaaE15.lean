/-
  Built-in functions that write into a block that stands in the list of blocks: 'append' where there is room, 'copy', 'clear'.
-/
import Derived.Test.YtlgggljlegpaoaaE14
import Derived.Laws.BytesArg
namespace Go.E
open Go.RowKit

theorem setL_all {α : Type} {m vs : List α} (h : vs.length = m.length) : setL m 0 vs = vs := by
  rw [setL_eq _ _ _ (by omega), List.drop_of_length_le (by omega)]; simp
theorem setL_tail {α : Type} {a b vs : List α} (h : vs.length = b.length) : setL (a ++ b) a.length vs = a ++ vs := by
  have := setL_mid (a := a) (m := b) (b := []) (vs := vs) (j := 0) (by omega)
  simpa [setL_all h] using this

theorem zeroCells_one (z : Array Value) : (Builtin.zeroCells z 1).toList = z.toList := by
  apply List.ext_getElem
  · simp [Builtin.zeroCells]
  · intro i h1 h2
    have h2' : i < z.size := by simpa using h2
    simp [Builtin.zeroCells, Nat.mod_eq_of_lt h2', h2']

/-- One block is another one now; nothing else has turned. -/
structure SetTo (w w' : World) (b : Nat) (o : Obj) : Prop where
  heap : w'.heap[b]? = some o
  rest : ∀ k, k ≠ b → w'.heap[k]? = w.heap[k]?
  os : w'.os = w.os
  tape : w'.tape = w.tape
  output : w'.output = w.output
  size : w'.heap.size = w.heap.size

theorem SetTo.refl {w : World} {b : Nat} {o : Obj} (h : w.heap[b]? = some o) : SetTo w w b o := ⟨h, fun _ _ => rfl, rfl, rfl, rfl, rfl⟩

section
variable {P : Program} {w0 w : World} {F : HP} {e : TypeId} {sz : Nat}

/-- An owned slice of octets, as a string. -/
theorem own_str {src dst : TypeId} {base : Option Addr} {n c : Nat} {xs : List Int} (hs : P.underlying src = some (.slice e)) (he : P.underlying e = some (.int .u8)) (hd : P.underlying dst = some .string)
    (h : Sat w0 (own e 1 base n c (xs.map (Value.int .u8)) * F) w) : (convert src dst (.slice base n c)).run P w = .ok (.string (strOfNums xs)) w := by
  rcases own_cases h with ⟨rfl, rfl, rfl, h0, _⟩ | ⟨s, ⟨rfl, h1, _⟩, hF⟩
  · have : xs = [] := List.map_eq_nil_iff.1 h0
    subst this
    exact run_convert_bytes_nil w src e hs he 0 0 dst hd
  · refine run_convert_bytes_arg w src e hs he s.b s.pre.length n c xs (by simpa using h1) (fun i hi => ?_) dst hd
    have := strip_cell (w := w) hF.get i (.int .u8 (xs.getD i 0)) (by
      have hlt : i < xs.length := by have : (xs.map (Value.int .u8)).length = n * 1 := h1; simp at this; omega
      simp [hlt])
    rwa [Addr.add_lit] at this

theorem SetTo.sat {w' : World} {b : Nat} {o o' : Obj} (h : SetTo w w' b o') (hs : Sat w0 (pt b o * F) w) : Sat w0 (pt b o' * F) w' :=
  hs.set h.heap h.rest h.os h.tape h.output (by rw [h.size]; exact Nat.le_refl _)

theorem run_storeCells_setTo {vs : List Value} {b off : Nat} {cs : List Value} {t : TypeId} (h : w.heap[b]? = some (.cells cs.toArray t (0, 0))) (h1 : ∀ v ∈ vs, Value.one v = true) (hl : off + vs.length ≤ cs.length) :
    ∃ w', (storeCells ⟨b, off, none⟩ vs).run P w = .ok () w' ∧ SetTo w w' b (.cells (setL cs off vs).toArray t (0, 0)) := by
  obtain ⟨w', hr, hb, hk, e1, e2, e3, e4⟩ := storeCells_run (P := P) (vs := vs) (off := off) (i := 0) h h1 (by simpa using hl)
  exact ⟨w', hr, by simpa using hb, hk, e1, e2, e3, e4⟩

theorem blk_append {t tx ty ety : TypeId} {ti : TypeInfo} {b off n c m : Nat} {x : Value} {cs news : List Value} (ht : P.underlying t = some (.slice e)) (hi : P.info? e = some ti) (hsz : ti.size = sz)
    (h : w.heap[b]? = some (.cells cs.toArray ety (0, 0))) (hx : Src P sz tx x m news w) (hroom : n + m ≤ c) (hl : off + n * sz + news.length ≤ cs.length) :
    ∃ w', (Builtin.append_ #[t, tx] ty #[.slice (some ⟨b, off, none⟩) n c, x]).run P w = .ok (.slice (some ⟨b, off, none⟩) (n + m) c) w' ∧ SetTo w w' b (.cells (setL cs (off + n * sz) news).toArray ety (0, 0)) := by
  obtain ⟨w', hr, hw⟩ := run_storeCells_setTo (P := P) h (fun u hu => (one_oneCell u).trans (hx.one u hu)) hl
  refine ⟨w', ?_, hw⟩
  have hc := hx.cells
  rcases hx.kind with ⟨e', hk'⟩ | hk' <;> simp [Builtin.append_, run_underlying ht, run_underlying hk', sizeOf, typeInfo, hi, hx.len, hsz, hc, hroom, Addr.add_lit, hr]

theorem blk_clear {t ty ety : TypeId} {z : Value} {b off n c : Nat} {cs : List Value} (ht : P.underlying t = some (.slice e)) (hz : ∀ w, (zeroValue e).run P w = .ok z w) (hone : ∀ v ∈ z.cells.toList, Value.one v = true)
    (h : w.heap[b]? = some (.cells cs.toArray ety (0, 0))) (hl : off + n * z.cells.size ≤ cs.length) :
    ∃ w', (Builtin.clear_ #[t] ty #[.slice (some ⟨b, off, none⟩) n c]).run P w = .ok (.tuple #[]) w' ∧ SetTo w w' b (.cells (setL cs off (Builtin.zeroCells z.cells n).toList).toArray ety (0, 0)) := by
  have hzl : (Builtin.zeroCells z.cells n).toList.length = n * z.cells.size := zeroCells_length _ _
  cases n with
  | zero =>
    refine ⟨w, ?_, SetTo.refl ?_⟩
    · simp [Builtin.clear_, run_underlying ht]
    · have : (Builtin.zeroCells z.cells 0).toList = [] := List.length_eq_zero_iff.1 (by rw [hzl]; simp)
      rw [this]; exact h
  | succ m =>
    have ho : ∀ v ∈ (Builtin.zeroCells z.cells (m + 1)).toList, Value.one v = true := by
      intro v hv
      simp only [Builtin.zeroCells, Array.toList_map, Array.toList_range, List.mem_map, List.mem_range] at hv
      obtain ⟨i, hi, rfl⟩ := hv
      have hp : 0 < z.cells.size := by
        rcases Nat.eq_zero_or_pos z.cells.size with h0 | h0
        · rw [h0] at hi; simp at hi
        · exact h0
      have hlt : i % z.cells.size < z.cells.size := Nat.mod_lt _ hp
      refine hone _ ?_
      rw [getElem!_pos z.cells _ hlt]
      exact Array.getElem_mem_toList hlt
    obtain ⟨w', hr, hw⟩ := run_storeCells_setTo (P := P) (off := off) h ho (by rw [hzl]; exact hl)
    refine ⟨w', ?_, hw⟩
    simp [Builtin.clear_, run_underlying ht, hz, hr]

theorem blt_append {ts : Array TypeId} {ty : TypeId} {cc : Array Bool} {args : Array Value} {v : Value} {w' : World} (h : (Builtin.append_ ts 0 args).run P w = .ok v w') : (builtin .append ts ty cc args).run P w = .ok (.value v) w' := by
  show (Sem.run P (do pure (Next.value (← Builtin.append_ ts 0 args))) w) = _
  simp [h]
theorem blt_clear {ts : Array TypeId} {ty : TypeId} {cc : Array Bool} {args : Array Value} {v : Value} {w' : World} (h : (Builtin.clear_ ts 0 args).run P w = .ok v w') : (builtin .clear ts ty cc args).run P w = .ok (.value v) w' := by
  show (Sem.run P (do pure (Next.value (← Builtin.clear_ ts 0 args))) w) = _
  simp [h]
theorem blt_copy {ts : Array TypeId} {ty : TypeId} {cc : Array Bool} {args : Array Value} {v : Value} {w' : World} (h : (Builtin.copy_ ts 0 args).run P w = .ok v w') : (builtin .copy ts ty cc args).run P w = .ok (.value v) w' := by
  show (Sem.run P (do pure (Next.value (← Builtin.copy_ ts 0 args))) w) = _
  simp [h]

theorem blk_copy {t tx ty ety : TypeId} {b off n c m : Nat} {x : Value} {cs news : List Value} (ht : P.underlying t = some (.slice e)) (hsz : szOf P e = some sz)
    (h : w.heap[b]? = some (.cells cs.toArray ety (0, 0))) (hlen : ∀ w' : World, (Builtin.lenOf x).run P w' = .ok m w') (hx : (Builtin.firstCells sz (min m n) x).run P w = .ok news.toArray w) (h1 : ∀ v ∈ news, Value.one v = true)
    (hl : off + news.length ≤ cs.length) :
    ∃ w', (Builtin.copy_ #[t, tx] ty #[.slice (some ⟨b, off, none⟩) n c, x]).run P w = .ok (.int .i64 (min m n : Nat)) w' ∧ SetTo w w' b (.cells (setL cs off news).toArray ety (0, 0)) := by
  obtain ⟨w', hr, hw⟩ := run_storeCells_setTo (P := P) (off := off) h h1 hl
  refine ⟨w', ?_, hw⟩
  have e1 : Nat.min m n = min m n := rfl
  simp [Builtin.copy_, run_underlying ht, run_sizeOf' hsz, hlen, e1, hx, hr, goInt]

end

section
variable {P : Program} {ro : Option Nat} {f : FuncId} {Q : Leave → Act → World → Prop} {cfg : Cfg} {ds : List Deferred} {F : HP}
variable {β : List Nat} {fr : Fr} {H : Hp}

/-- A call of which one value comes back. -/
theorem Go.callV {p : List Nat} {i : Nat} {rest : List Nat} {k : List It} {o : Oper} {g : FuncId} {l : List LV} (lv : LV) (H' : Hp) (F' : HP) (ho : (opsOf (sub cfg.c0 p))[i]? = some o) (hg : guardOf fr (opsOf (sub cfg.c0 p)) o = .yes)
    (hd : okDst cfg.N o.dst = true) (hc : callOf fr o = some (g, l)) (hp : plainFn P g = true) (hn : noGd fr = true) (hlv : lv.isGd = false)
    (h : ∀ w, Sat cfg.w0 (satH cfg.w0 β H * F) w → Calls P g (denL β l).toArray w fun e w' => e = .returned (den β lv) ∧ Sat cfg.w0 (satH cfg.w0 β H' * F') w')
    (hgo : Go P ro f Q cfg ds F' β (putS fr o.dst lv) H' (.reg p rest :: k)) : Go P ro f Q cfg ds F β fr H (.reg p (i :: rest) :: k) :=
  Go.call ho hg hd hc hp fun w hs => (h w hs).mono fun _ _ he => ⟨_, he.1, β, fr, H', F', lv, rfl, hlv, FrEq.refl β fr, hn, he.2, hgo⟩

/-- A conversion that reads memory. -/
def convOf (fr : Fr) (o : Oper) : Option (TypeId × TypeId × LV) :=
  match o.op with
  | .convert s d x => (arg fr none x).map fun v => (s, d, v)
  | _ => none
theorem Go.conv {p : List Nat} {i : Nat} {rest : List Nat} {k : List It} {o : Oper} {s d : TypeId} {xv : LV} (lv : LV) (ho : (opsOf (sub cfg.c0 p))[i]? = some o) (hg : guardOf fr (opsOf (sub cfg.c0 p)) o = .yes) (hd : okDst cfg.N o.dst = true)
    (hc : convOf fr o = some (s, d, xv)) (hn : noGd fr = true) (hlv : lv.isGd = false) (h : ∀ w, Sat cfg.w0 (satH cfg.w0 β H * F) w → (convert s d (den β xv)).run P w = .ok (den β lv) w)
    (hgo : Go P ro f Q cfg ds F β (putS fr o.dst lv) H (.reg p rest :: k)) : Go P ro f Q cfg ds F β fr H (.reg p (i :: rest) :: k) := by
  refine Go.special ho hg hd fun a w hR => ?_
  unfold convOf at hc
  split at hc
  · rename_i s' d' x hop
    obtain ⟨v, h1, he⟩ := Option.map_eq_some_iff.1 hc
    simp only [Prod.mk.injEq] at he
    obtain ⟨rfl, rfl, rfl⟩ := he
    have e1 := arg_spec hR.agree hR.gd (Cok.none fr) h1
    have e3 : execOp a.eval o = execOp a.eval { o with op := .convert s' d' x } := by rw [← hop]
    have hr : (execOp a.eval o).run P w = .ok (.value (den β lv)) w := by
      rw [e3]
      refine run_val (s := convert s' d' (a.eval x)) rfl ?_
      rw [e1]; exact h w hR.sat
    rw [hr]
    exact ⟨β, fr, H, F, lv, rfl, hlv, FrEq.refl β fr, hn, hR.sat, hgo⟩
  · cases hc

/-- A block is let go. -/
theorem dropH {w0 w : World} {β : List Nat} {i : Nat} {lo : LO} {H : Hp} {F : HP} (h : Sat w0 (satH w0 β ((i, lo) :: H) * F) w) : Sat w0 (satH w0 β H * F) w := by
  simp only [satH, star_assoc] at h
  exact h.right

/-- A state as another one, of which the walk is known to go on. -/
theorem Go.again {F' : HP} {β' : List Nat} {fr' : Fr} {H' : Hp} {stk : List It} (hrec : Go P ro f Q cfg ds F' β' fr' H' stk) (hst : ∀ β'', StkGo P ro f Q cfg β'' stk = StkGo P ro f Q cfg β stk)
    (h : ∀ w, Sat cfg.w0 (satH cfg.w0 β H * F) w → FrAll β fr β' fr' ∧ noGd fr' = true ∧ Sat cfg.w0 (satH cfg.w0 β' H' * F') w) : Go P ro f Q cfg ds F β fr H stk :=
  Go.recast (fun w hs => ⟨β', fr', H', F', FrEq.of_all (h w hs).1, (h w hs).2.1, (h w hs).2.2, hrec⟩) hst

theorem satH_setTo {w w' : World} {id : Nat} {cs cs' : List Value} {ty : TypeId} (hg : H.get id = some (.arr cs ty)) (hs : Sat cfg.w0 (satH cfg.w0 β H * F) w) (h : SetTo w w' (bk β id) (.cells cs'.toArray ty (0, 0))) :
    Sat cfg.w0 (satH cfg.w0 β (H.set id (.arr cs' ty)) * F) w' := by
  rw [satH_set hg, star_assoc]
  rw [satH_get hg, star_assoc] at hs
  exact h.sat hs

theorem arr_heap {w : World} {id : Nat} {cs : List Value} {ty : TypeId} (hg : H.get id = some (.arr cs ty)) (hs : Sat cfg.w0 (satH cfg.w0 β H * F) w) : w.heap[bk β id]? = some (.cells cs.toArray ty (0, 0)) :=
  HSat.heap (F := F) hs hg (by simp)

/-- A built-in function that writes into one block. -/
theorem Go.bltSet {p : List Nat} {i : Nat} {rest : List Nat} {k : List It} {o : Oper} {b : Builtin} {ts : Array TypeId} {l : List LV} {id : Nat} {cs : List Value} {ety : TypeId} (lv : LV) (cs' : List Value)
    (ho : (opsOf (sub cfg.c0 p))[i]? = some o) (hg : guardOf fr (opsOf (sub cfg.c0 p)) o = .yes) (hd : okDst cfg.N o.dst = true) (hc : bltOf fr o = some (b, ts, l)) (hn : noGd fr = true) (hlv : lv.isGd = false) (hget : H.get id = some (.arr cs ety))
    (h : ∀ w, Sat cfg.w0 (satH cfg.w0 β H * F) w → ∃ w', (∀ cc, (builtin b ts o.type cc (denL β l).toArray).run P w = .ok (.value (den β lv)) w') ∧ SetTo w w' (bk β id) (.cells cs'.toArray ety (0, 0)))
    (hgo : Go P ro f Q cfg ds F β (putS fr o.dst lv) (H.set id (.arr cs' ety)) (.reg p rest :: k)) : Go P ro f Q cfg ds F β fr H (.reg p (i :: rest) :: k) := by
  refine Go.blt ho hg hd hc fun w hs => ?_
  obtain ⟨w', h1, h2⟩ := h w hs
  exact ⟨_, w', h1, β, fr, _, F, lv, rfl, hlv, FrEq.refl β fr, hn, satH_setTo hget hs h2, hgo⟩

theorem Go.bltSetD {p : List Nat} {q nn Z i : Nat} {HS : Hp} {k : List It} {o : Oper} {b : Builtin} {ts : Array TypeId} {l : List LV} {id : Nat} {cs : List Value} {ety : TypeId} (lv : LV) (cs' : List Value)
    (ho : (opsOf (sub cfg.c0 p))[i]? = some o) (hg : guardOf fr (opsOf (sub cfg.c0 p)) o = .yes) (hd : okDst cfg.N o.dst = true) (hc : bltOf fr o = some (b, ts, l)) (hl : fr.lt β.length = true) (hH : HS.lt β.length = true) (hlv : lv.isGd = false)
    (hget : H.get id = some (.arr cs ety)) (hHS : HS = [])
    (h : ∀ w, Sat cfg.w0 (satH cfg.w0 β H * F) w → ∃ w', (∀ cc, (builtin b ts o.type cc (denL β l).toArray).run P w = .ok (.value (den β lv)) w') ∧ SetTo w w' (bk β id) (.cells cs'.toArray ety (0, 0)))
    (hgo : Go P ro f Q cfg ds F β (putS fr o.dst lv) (H.set id (.arr cs' ety)) (.dreg p (q ||| 2 ^ i) nn Z HS :: k)) : Go P ro f Q cfg ds F β fr H (.dop p q nn Z HS i :: k) := by
  refine Go.bltD ho hg hd hl hH hc fun w hs => ?_
  obtain ⟨w', h1, h2⟩ := h w hs
  refine ⟨_, w', h1, [], _, F, lv, by rw [List.append_nil], hlv, by rw [List.append_nil]; exact satH_setTo hget hs h2, fun _ => ?_, by rw [List.append_nil]; exact hgo⟩
  subst hHS
  have := satH_setTo hget hs h2
  exact ⟨fun _ _ hg => (by simp [Hp.get] at hg), fun _ hg => (by simp [Hp.get] at hg), (HSat.look this).base⟩

end
end Go.E
