/-
  'run_sound'.
-/
import Derived.Test.YtlgggljlegpaoaaE9
namespace Go.E

section
variable {P : Program} {ro : Option Nat} {f : FuncId} {Q : Leave → Act → World → Prop} {cfg : Cfg} {ds : List Deferred} {F : HP}

/-- What is to be shown where 'run' stops, and where it leaves. -/
abbrev AtStop (P : Program) (ro : Option Nat) (f : FuncId) (Q : Leave → Act → World → Prop) (cfg : Cfg) (ds : List Deferred) (F : HP) (β : List Nat) (s : St) : Prop :=
  s.nx = β.length → ∀ a w, Rel cfg ds F β s.fr s.H a w → StkGo P ro f Q cfg β s.stk a w
abbrev AtLeave (Q : Leave → Act → World → Prop) (cfg : Cfg) (ds : List Deferred) (F : HP) (β : List Nat) (x : Leave) (s : St) : Prop :=
  ∀ a w, Rel cfg ds F β s.fr s.H a w → Q x a w
abbrev Ok (P : Program) (ro : Option Nat) (f : FuncId) (Q : Leave → Act → World → Prop) (cfg : Cfg) (ds : List Deferred) (F : HP) (β : List Nat) (r : Res) : Prop :=
  r.ok (AtStop P ro f Q cfg ds F) (AtLeave Q cfg ds F) β

def Sound (P : Program) (ro : Option Nat) (f : FuncId) (Q : Leave → Act → World → Prop) (cfg : Cfg) (ds : List Deferred) (F : HP) (n : Nat) : Prop :=
  ∀ (s : St) (β : List Nat), flatT s.stk = true → s.nx = β.length → Ok P ro f Q cfg ds F β (run cfg P n s) → ∀ a w, Rel cfg ds F β s.fr s.H a w → StkGo P ro f Q cfg β s.stk a w

variable {n : Nat} {k : List It} {fr : Fr} {H : Hp} {nx : Nat} {orc : List LV} {β : List Nat} {a : Act} {w : World}

theorem Sound.go (ih : Sound P ro f Q cfg ds F n) (hk : flat k = true) (hnx : nx = β.length) (hok : Ok P ro f Q cfg ds F β (run cfg P n ⟨k, fr, H, nx, orc⟩)) (hR : Rel cfg ds F β fr H a w) :
    Goes P ro f Q (items cfg k) a w := (ih ⟨k, fr, H, nx, orc⟩ β (flatT_of hk) hnx hok a w hR).goes hk

theorem Hp.onlyL_get {l : List Nat} {i : Nat} {lo : LO} : ∀ {H : Hp}, (H.onlyL l).get i = some lo → H.get i = some lo
  | [], h => h
  | (k, v) :: r, h => by
    simp only [Hp.onlyL] at h
    cases hm : mem l k <;> rw [hm] at h
    · have ih := Hp.onlyL_get (H := r) h
      simp only [Hp.get]
      cases hb : Nat.beq k i
      · exact ih
      · obtain rfl := Nat.eq_of_beq_eq_true hb
        exfalso
        have none : ∀ {r : Hp}, (Hp.onlyL l r).get k = none := by
          intro r
          induction r with
          | nil => rfl
          | cons q r ih2 =>
            obtain ⟨k2, v2⟩ := q
            simp only [Hp.onlyL]
            cases hm2 : mem l k2
            · exact ih2
            · simp only [cond_true, Hp.get]
              cases hb2 : Nat.beq k2 k
              · exact ih2
              · obtain rfl := Nat.eq_of_beq_eq_true hb2
                rw [hm] at hm2; cases hm2
        simp only [cond_false] at h
        rw [none] at h; cases h
    · simp only [cond_true, Hp.get] at h ⊢
      cases hb : Nat.beq k i <;> rw [hb] at h
      · exact Hp.onlyL_get (H := r) h
      · exact h
theorem Look.only {w0 : World} {β : List Nat} {H : Hp} {w : World} (o : Option (List Nat)) (h : Look w0 β H w) : Look w0 β (H.only o) w := by
  cases o with
  | none => exact h
  | some l => exact ⟨fun i lo hg => h.heap i lo (Hp.onlyL_get hg), fun i hg => h.roLt i (Hp.onlyL_get hg), h.base⟩

theorem sound_code (ih : Sound P ro f Q cfg ds F n) {p : List Nat} (hk : flat k = true) (hnx : nx = β.length) (hok : Ok P ro f Q cfg ds F β (run cfg P (n + 1) ⟨.code p :: k, fr, H, nx, orc⟩))
    (hm : P.follows .mixedOrders = true) (hR : Rel cfg ds F β fr H a w) : Goes P ro f Q (items cfg (.code p :: k)) a w := by
  rw [run] at hok
  simp only at hok
  have hsub : ∀ i, sub cfg.c0 (p ++ [i]) = kid (sub cfg.c0 p) i := fun i => by rw [sub_append]; rfl
  have hit : items cfg (.code p :: k) = .code (sub cfg.c0 p) :: items cfg k := rfl
  rw [hit]
  have hat : (AtStop P ro f Q cfg ds F β ⟨.code p :: k, fr, H, nx, orc⟩) → Goes P ro f Q (.code (sub cfg.c0 p) :: items cfg k) a w := fun h => h hnx a w hR
  split at hok
  · rename_i hc; rw [hc]; exact Goes.skip (ih.go hk hnx hok hR)
  · rename_i l hc; rw [hc]; exact Goes.label (ih.go hk hnx hok hR)
  · rename_i x y hc
    rw [hc]
    have := ih.go (k := .code (p ++ [0]) :: .code (p ++ [1]) :: k) hk hnx hok hR
    simp only [items, List.map_cons, It.item, hsub, hc, kid] at this
    exact Goes.seq this
  · rename_i c x y hc
    rw [hc]
    have two : ∀ (b : Bool), a.eval c = .bool b → Ok P ro f Q cfg ds F β (run cfg P n ⟨.code (p ++ [bif b then 0 else 1]) :: k, fr.keep cfg.live, H, nx, orc⟩) → Goes P ro f Q (.code (.cond c x y) :: items cfg k) a w := by
      intro b hb hok'
      have := ih.go (k := .code (p ++ [bif b then 0 else 1]) :: k) hk hnx hok' (hR.keep cfg.live)
      refine Goes.cond hb ?_
      cases b <;> simpa only [items, List.map_cons, It.item, hsub, hc, kid, cond_true, cond_false, Bool.false_eq_true, if_false, if_true] using this
    split at hok
    · rename_i b hb
      have hv : a.eval c = .bool b := opv_spec hR.agree hb
      cases b
      · exact two false hv (hok.2 rfl)
      · exact two true hv (hok.1 rfl)
    · rename_i b hb
      exact two b (opv_spec hR.agree hb) hok
    · exact hok.elim
  · rename_i id x hc
    rw [hc]
    have := ih.go (k := .code (p ++ [0]) :: .blk id :: k) hk hnx hok hR
    simp only [items, List.map_cons, It.item, hsub, hc, kid] at this
    exact Goes.block this
  · rename_i x hc
    rw [hc]
    have := ih.go (k := .code (p ++ [0]) :: .scp (p ++ [0]) :: k) hk hnx hok hR
    simp only [items, List.map_cons, It.item, hsub, hc, kid] at this
    exact Goes.scope this
  · rename_i x hc; exact hat hok
  · exact hat hok
  · exact hat hok
  · exact hok.elim
  · rename_i id hc
    rw [hc]
    split at hok
    · rename_i k' hx
      obtain ⟨h1, h2⟩ := xto_spec (cfg := cfg) hx
      exact Goes.exit h1 (ih.go (h2 hk) hnx hok hR)
    · rename_i hx
      cases hn : noRaw k <;> rw [hn] at hok
      · exact hok.elim
      · exact Goes.out (xto_none hx hn) (hok a w hR)
  · rename_i hc; rw [hc]; exact Goes.ret (hok a w hR)
  · rename_i id ops d hc
    have hops : opsOf (sub cfg.c0 p) = ops := by rw [hc]; rfl
    cases hst : mem cfg.stops id <;> rw [hst] at hok
    · simp only [cond_false] at hok
      cases d
      · simp only [cond_false] at hok
        have := ih.go (k := .reg p (List.range ops.size) :: k) hk hnx hok hR
        simp only [items, List.map_cons, It.item, hops] at this
        rw [hc]
        exact Goes.region this
      · simp only [cond_true] at hok
        cases hns : Region.noSelect ops <;> rw [hns] at hok
        · exact hok.elim
        · simp only [cond_true] at hok
          rw [hc]
          have hRd : Rel cfg ds F β fr H a w.drew := ⟨hR.size, hR.defers, hR.agree, hR.gd, hR.sat.drew⟩
          have fin : ∀ Z HS, Ok P ro f Q cfg ds F β (run cfg P n ⟨.dreg p 0 ops.size Z HS :: k, fr, H, nx, orc⟩) → Look cfg.w0 β HS w.drew → Goes P ro f Q (.code (.region id ops true) :: items cfg k) a w := by
            intro Z HS hok' hl
            have := ih ⟨.dreg p 0 ops.size Z HS :: k, fr, H, nx, orc⟩ β hk hnx hok' a w.drew hRd
            simp only [StkGo, hops, lst_zero] at this
            exact Goes.two hm (this fun _ => hl)
          cases hz : zok (zOf ops) ops && hasLoad ops <;> rw [hz] at hok
          · exact fin _ _ hok ⟨fun _ _ hg => (by simp [Hp.get] at hg), fun _ hg => (by simp [Hp.get] at hg), hRd.sat.look.base⟩
          · exact fin _ _ hok (Look.only _ (HSat.look hRd.sat))
    · exact hat hok

theorem sound_reg (ih : Sound P ro f Q cfg ds F n) {p : List Nat} {todo : List Nat} (hk : flat k = true) (hnx : nx = β.length) (hok : Ok P ro f Q cfg ds F β (run cfg P (n + 1) ⟨.reg p todo :: k, fr, H, nx, orc⟩))
    (hR : Rel cfg ds F β fr H a w) : Goes P ro f Q (items cfg (.reg p todo :: k)) a w := by
  have hit : ∀ l, items cfg (.reg p l :: k) = .inRegion (opsOf (sub cfg.c0 p)) l :: items cfg k := fun _ => rfl
  rw [hit]
  cases todo with
  | nil =>
    rw [run] at hok
    exact Goes.regionEnd (ih.go hk hnx hok (hR.keep _))
  | cons i rest =>
    rw [run] at hok
    simp only at hok
    split at hok
    · rename_i ho
      have := ih.go (k := .reg p rest :: k) hk hnx hok hR
      exact Goes.opNone ho this
    · rename_i o ho
      -- an operation that is carried out
      have ex : ∀ {fr' : Fr}, Rel cfg ds F β fr' H a w → Region.wanted o (yielded (opsOf (sub cfg.c0 p)) a.tmps) = true →
          Ok P ro f Q cfg ds F β (bif okDst cfg.N o.dst then
            (match op1 cfg P fr' H nx orc none o with
            | .val ns v orc' => needN ns (run cfg P n ⟨.reg p rest :: k, putS fr' o.dst v, H, nx, orc'⟩)
            | .eff e => needN e.ns (newN (Nat.blt nx e.nx) (run cfg P n ⟨.reg p rest :: k, (match e.dst with | some v => putS fr' o.dst v | none => delS fr' o.dst), e.H, e.nx, orc⟩))
            | .spec => .stop ⟨.reg p (i :: rest) :: k, fr', H, nx, orc⟩)
          else .bad "dst" ⟨.reg p (i :: rest) :: k, fr, H, nx, orc⟩) → Goes P ro f Q (.inRegion (opsOf (sub cfg.c0 p)) (i :: rest) :: items cfg k) a w := by
        intro fr' hR' hw hok'
        cases hd : okDst cfg.N o.dst <;> rw [hd] at hok'
        · exact hok'.elim
        · simp only [cond_true] at hok'
          split at hok'
          · rename_i ns v orc' hop
            obtain ⟨hn, hok2⟩ := needN_ok hok'
            obtain ⟨hg, hr⟩ := op1_val hR' (Cok.none fr') hop hn
            refine Goes.op ho hw (OpGo.value hr ?_)
            exact ih.go (k := .reg p rest :: k) hk hnx hok2 (hR'.putS hd hg)
          · rename_i e hop
            obtain ⟨hn, hok2⟩ := needN_ok hok'
            have hE := op1_eff hR' hnx (Cok.none fr') hop hn
            refine Goes.op ho hw (eff_go hnx hd hR' hE hok2 ?_)
            intro γ w' fr'' h1 h2 h3 _ a' h4
            subst h2
            exact ih.go (k := .reg p rest :: k) hk h1 h3 h4
          · have := hok' hnx a w hR'
            exact this
      split at hok
      · rename_i hgd
        exact ex hR (guard_yes hR.agree hgd) hok
      · rename_i hgd
        have := ih.go (k := .reg p rest :: k) hk hnx hok (hR.delS o.dst undef)
        exact Goes.opSkip ho (guard_no hR.agree hgd) this
      · exact hok.elim
      · rename_i c t want hgd
        obtain ⟨hwn, v0, hv0, hc0⟩ := guard_sym hR.agree hgd
        cases hb : okDst cfg.N o.dst && (okG fr (some (t, want, c)) o.dst && Nat.blt t cfg.N) <;> rw [hb] at hok
        · exact hok.elim
        · simp only [cond_true] at hok
          simp only [Bool.and_eq_true] at hb
          have other : Ok P ro f Q cfg ds F β (.ite c (bif okDst cfg.N o.dst then
              (match op1 cfg P (litT fr t want) H nx orc none o with
              | .val ns v orc' => needN ns (run cfg P n ⟨.reg p rest :: k, putS (litT fr t want) o.dst v, H, nx, orc'⟩)
              | .eff e => needN e.ns (newN (Nat.blt nx e.nx) (run cfg P n ⟨.reg p rest :: k, (match e.dst with | some v => putS (litT fr t want) o.dst v | none => delS (litT fr t want) o.dst), e.H, e.nx, orc⟩))
              | .spec => .stop ⟨.reg p (i :: rest) :: k, (litT fr t want), H, nx, orc⟩)
            else .bad "dst" ⟨.reg p (i :: rest) :: k, fr, H, nx, orc⟩)
              (run cfg P n ⟨.reg p rest :: k, delS (litF fr t want) o.dst, H, nx, orc⟩)) → Goes P ro f Q (.inRegion (opsOf (sub cfg.c0 p)) (i :: rest) :: items cfg k) a w := by
            intro hok'
            cases c with
            | true =>
              obtain ⟨g1, g2⟩ := agree_litT hR.agree hR.gd hv0 hc0
              exact ex (hR.frame g1 g2) hwn (hok'.1 rfl)
            | false =>
              obtain ⟨g1, g2⟩ := agree_litF hR.agree hv0 hc0
              have := ih.go (k := .reg p rest :: k) hk hnx (hok'.2 rfl) ((hR.frame g1 g2).delS o.dst undef)
              exact Goes.opSkip ho hwn this
          split at hok
          · rename_i ns v orc' hop
            obtain ⟨hn, hok2⟩ := needN_ok hok
            have hR2 := hR.putGd (v := v) hb.1 hb.2.1 hv0 hc0
            have hgo := ih.go (k := .reg p rest :: k) hk hnx hok2 hR2
            rw [hit] at hgo
            cases c with
            | true =>
              have hcok : Cok fr (some (t, want, true)) := fun t' w' b' e => by cases e; exact ⟨rfl, v0, hv0, hc0⟩
              obtain ⟨_, hr⟩ := op1_val hR hcok hop (under_ok hn fun t' w' b' e => by cases e; rfl)
              refine Goes.op ho hwn (OpGo.value hr ?_)
              simpa [den] using hgo
            | false =>
              refine Goes.opSkip ho hwn ?_
              simpa [den] using hgo
          · exact other hok

theorem firstF_spec {g : Nat → Option Fl} {x : Fl} : ∀ {l : List Nat}, firstF g l = some x → ∃ i ∈ l, g i = some x
  | [], h => by simp [firstF] at h
  | i :: r, h => by
    simp only [firstF] at h
    split at h
    · rename_i y hy; cases h; exact ⟨i, by simp, hy⟩
    · obtain ⟨j, hj, hg⟩ := firstF_spec h; exact ⟨j, by simp [hj], hg⟩

theorem bothN_ok {G : List Nat → St → Prop} {L : List Nat → Leave → St → Prop} : ∀ {l : List Res}, (bothN l).ok G L β → ∀ r ∈ l, r.ok G L β
  | [], _, r, hr => by simp at hr
  | [x], h, r, hr => by simp only [List.mem_singleton] at hr; subst hr; exact h
  | x :: y :: l, h, r, hr => by
    rcases List.mem_cons.1 hr with rfl | hr
    · exact h.1
    · exact bothN_ok h.2 r hr

theorem sound_dreg (ih : Sound P ro f Q cfg ds F n) {p : List Nat} {m left Z : Nat} {HS : Hp} (hk : flat k = true) (hnx : nx = β.length) (hok : Ok P ro f Q cfg ds F β (run cfg P (n + 1) ⟨.dreg p m left Z HS :: k, fr, H, nx, orc⟩))
    (hR : Rel cfg ds F β fr H a w) : StkGo P ro f Q cfg β (.dreg p m left Z HS :: k) a w := by
  rw [run] at hok
  simp only at hok
  simp only [StkGo]
  generalize hops : opsOf (sub cfg.c0 p) = ops at hok ⊢
  intro hS
  have next : ∀ {β' : List Nat} {m' left' : Nat} {fr' : Fr} {H' : Hp} {nx' : Nat} {orc' : List LV} {a' : Act} {w' : World}, nx' = β'.length →
      Ok P ro f Q cfg ds F β' (run cfg P n ⟨.dreg p m' left' Z HS :: k, fr', H', nx', orc'⟩) → Rel cfg ds F β' fr' H' a' w' →
      (zdone Z ops.size (lst ops.size m') = false → Look cfg.w0 β' HS w') → Two P ops Z (Look cfg.w0 β' HS) (Goes P ro f Q (items cfg k)) left' (lst ops.size m') a' w' := by
    intro β' m' left' fr' H' nx' orc' a' w' h1 h2 h3 h4
    have := ih ⟨.dreg p m' left' Z HS :: k, fr', H', nx', orc'⟩ β' hk h1 h2 a' w' h3
    simp only [StkGo, hops] at this
    exact this h4
  cases hb : dcB ops (lst ops.size m) && (zok Z ops && Region.noSelect ops) <;> rw [hb] at hok
  · exact hok.elim
  · simp only [cond_true] at hok
    simp only [Bool.and_eq_true] at hb
    obtain ⟨hdc, hz, hns⟩ := hb
    have hDc := dcB_spec hdc
    split at hok
    · rename_i hrd
      exact Two.done hrd (ih.go hk hnx hok (hR.keep _)) left
    · rename_i rd hrd
      split at hok
      · exact hok.elim
      · rename_i left'
        -- S behind an operation that does not turn it
        have mono : ∀ {i : Nat} , (zdone Z ops.size (lst ops.size (m ||| 2 ^ i)) = false → zdone Z ops.size (lst ops.size m) = false) := by
          intro i hz'
          cases hz2 : zdone Z ops.size (lst ops.size m)
          · rfl
          · exfalso
            have : zdone Z ops.size (lst ops.size (m ||| 2 ^ i)) = true := by
              rw [← lst_set]
              unfold zdone at hz2 ⊢
              rw [List.all_eq_true] at hz2 ⊢
              intro t ht
              have := hz2 t ht
              simp only [Bool.or_eq_true] at this ⊢
              exact this.imp id getD_set_true
            rw [this] at hz'; cases hz'
        split at hok
        · rename_i xi xv xns xorc hx
          generalize hxe : (⟨xi, xv, xns, xorc⟩ : Fl) = x at hx
          obtain rfl : x.i = xi := by rw [← hxe]
          obtain rfl : x.v = xv := by rw [← hxe]
          obtain rfl : x.ns = xns := by rw [← hxe]
          obtain rfl : x.orc = xorc := by rw [← hxe]
          obtain ⟨i, hir, hfl⟩ := firstF_spec hx
          split at hok
          · rename_i o ho
            obtain ⟨hn, hok2⟩ := needN_ok hok
            unfold float1 at hfl
            cases hoi : ops[i]? with
            | none => rw [hoi] at hfl; cases hfl
            | some o' =>
              rw [hoi] at hfl
              simp only at hfl
              cases hfd : Region.free .any ops (lst ops.size m) i && okDst cfg.N o'.dst <;> rw [hfd] at hfl
              · cases hfl
              · simp only [cond_true] at hfl
                simp only [Bool.and_eq_true] at hfd
                have hmem : (rdy ops (lst ops.size m)).contains i = true := by simpa using hir
                -- the end of each way
                have fin : ∀ {v : Value} {fr' : Fr}, x.i = i → (Yl P ops (fun _ => True) o' v a ∨ (Z.testBit i = true ∧ zdone Z ops.size (lst ops.size m) = false ∧ Yl P ops (Look cfg.w0 β HS) o' v a)) →
                    (match x.v with | some v => putS fr o'.dst v | none => delS fr o'.dst) = fr' → Rel cfg ds F β fr' H (a.put o'.dst v) w → Two P ops Z (Look cfg.w0 β HS) (Goes P ro f Q (items cfg k)) (left' + 1) (lst ops.size m) a w := by
                  intro v fr' hxi hy hfr hR2
                  subst hxi
                  rw [ho] at hoi; cases hoi
                  subst hfr
                  have hnext := next hnx hok2 hR2 (fun hz' => hS (mono hz'))
                  rw [← lst_set] at hnext
                  rcases hy with hy | ⟨hzb, hzd, hy⟩
                  · exact Two.takeP hz hDc ho hns hfd.1 hmem hy hS hnext
                  · exact Two.takeS hz hDc ho hns hfd.1 hmem hzb hy (hS hzd) hnext
                -- a value, under a condition or not
                have viaFl : ∀ {c : Ctx}, floatAt cfg P fr HS orc Z (zdone Z ops.size (lst ops.size m)) i c o' = some x →
                    (c = none ∧ Region.wanted o' (yielded ops a.tmps) = true ∨ ∃ t wt b y, c = some (t, wt, b) ∧ Region.wanted o' (yielded ops a.tmps) = b ∧ fr.get t = some y ∧ condOf y wt = some b) →
                    Two P ops Z (Look cfg.w0 β HS) (Goes P ro f Q (items cfg k)) (left' + 1) (lst ops.size m) a w := by
                  intro c hfl hcc
                  unfold floatAt at hfl
                  cases hgk : okG fr c o'.dst <;> rw [hgk] at hfl
                  · cases hfl
                  · simp only [cond_true] at hfl
                    -- the run under the condition
                    have core : ∀ {v : LV} {ns : NeedL} {T : World → Prop}, v.isGd = false → x.ns = under c ns → x.v = some (wrapG c v) → x.i = i →
                        (Cok fr c → allP β ns → ∀ w, T w → (execOp a.eval o').run P w = .ok (.value (den β v)) w) →
                        ((∀ u, Yl P ops T o' u a → (Yl P ops (fun _ => True) o' u a ∨ (Z.testBit i = true ∧ zdone Z ops.size (lst ops.size m) = false ∧ Yl P ops (Look cfg.w0 β HS) o' u a)))) →
                        Two P ops Z (Look cfg.w0 β HS) (Goes P ro f Q (items cfg k)) (left' + 1) (lst ops.size m) a w := by
                      intro v ns T hvg hns' hxv hxi hrun hyl
                      rw [hns'] at hn
                      rcases hcc with ⟨rfl, hw⟩ | ⟨t, wt, b, y, rfl, hw, hy, hcy⟩
                      · refine fin (v := den β v) (fr' := putS fr o'.dst v) hxi (hyl _ (.inl ⟨hw, hrun (Cok.none fr) hn⟩)) (by rw [hxv]; rfl) (hR.putS hfd.2 hvg)
                      · refine fin (v := den β (.gd t wt b v)) (fr' := putS fr o'.dst (.gd t wt b v)) hxi (hyl _ ?_) (by rw [hxv]; rfl) (hR.putGd hfd.2 hgk hy hcy)
                        cases b with
                        | true =>
                          refine .inl ⟨hw, fun w hT => ?_⟩
                          have hcok : Cok fr (some (t, wt, true)) := fun t' w' b' e => by cases e; exact ⟨rfl, y, hy, hcy⟩
                          have := hrun hcok (under_ok hn fun t' w' b' e => by cases e; rfl) w hT
                          simpa [den] using this
                        | false => exact .inr ⟨hw, by simp [den]⟩
                    split at hfl
                    · rename_i v ns he
                      cases hvg : v.isGd <;> rw [hvg] at hfl
                      · simp only [cond_false, Option.some.injEq] at hfl
                        subst hfl
                        exact core (T := fun _ => True) hvg rfl rfl rfl (fun hc hns w _ => evalPure_spec hR.agree hR.gd hc he hns) (fun u hu => .inl hu)
                      · cases hfl
                    · cases hzz : (!zdone Z ops.size (lst ops.size m)) && Z.testBit i <;> rw [hzz] at hfl
                      · cases hfl
                      · simp only [cond_true] at hfl
                        simp only [Bool.and_eq_true, Bool.not_eq_true'] at hzz
                        split at hfl
                        · rename_i v ns orc' he
                          cases hvg : v.isGd <;> rw [hvg] at hfl
                          · simp only [cond_false, Option.some.injEq] at hfl
                            subst hfl
                            exact core (T := Look cfg.w0 β HS) hvg rfl rfl rfl (fun hc hns w hl => evalLoad_spec hR.agree hR.gd hc hl he hns) (fun u hu => .inr ⟨hzz.2, hzz.1, hu⟩)
                          · cases hfl
                        · cases hfl
                split at hfl
                · rename_i hgd
                  simp only [Option.some.injEq] at hfl
                  subst hfl
                  exact fin (v := undef) (fr' := delS fr o'.dst) rfl (.inl (.inr ⟨guard_no hR.agree hgd, rfl⟩)) rfl (hR.delS o'.dst undef)
                · cases hfl
                · rename_i hgd
                  exact viaFl hfl (.inl ⟨rfl, guard_yes hR.agree hgd⟩)
                · rename_i c t wt hgd
                  obtain ⟨hwn, v0, hv0, hc0⟩ := guard_sym hR.agree hgd
                  exact viaFl hfl (.inr ⟨t, wt, c, v0, rfl, hwn, hv0, hc0⟩)
          · exact hok.elim
        · -- each that may come
          have hall := bothN_ok hok
          refine Two.all (rs := rdy ops (lst ops.size m)) rfl (fun h0 => hrd h0) fun i hi => ?_
          have hoki := hall _ (List.mem_map.2 ⟨i, hi, rfl⟩)
          rw [lst_set]
          split at hoki
          · exact hoki.elim
          · rename_i o ho
            have ex : ∀ {fr' : Fr}, Rel cfg ds F β fr' H a w → Region.wanted o (yielded ops a.tmps) = true →
                Ok P ro f Q cfg ds F β (bif okDst cfg.N o.dst then
                  (match op1 cfg P fr' H nx orc none o with
                  | .val ns v orc' => needN ns (run cfg P n ⟨.dreg p (m ||| 2 ^ i) left' Z HS :: k, putS fr' o.dst v, H, nx, orc'⟩)
                  | .eff e =>
                    bif (zdone Z ops.size (lst ops.size m) || (isNilH HS || (match e.tgt with | some _ => false | none => true))) && HS.lt nx then
                      needN e.ns (newN (Nat.blt nx e.nx) (run cfg P n ⟨.dreg p (m ||| 2 ^ i) left' Z HS :: k, (match e.dst with | some v => putS fr' o.dst v | none => delS fr' o.dst), e.H, e.nx, orc⟩))
                    else .bad "store beside" ⟨.dreg p m (left' + 1) Z HS :: k, fr, H, nx, orc⟩
                  | .spec => .stop ⟨.dop p m left' Z HS i :: k, fr', H, nx, orc⟩)
                else .bad "dst" ⟨.dreg p m (left' + 1) Z HS :: k, fr, H, nx, orc⟩) →
                wop P ops i (fun a' w' => (zdone Z ops.size (lst ops.size m) = false → Look cfg.w0 β HS w') ∧ Two P ops Z (Look cfg.w0 β HS) (Goes P ro f Q (items cfg k)) left' (lst ops.size (m ||| 2 ^ i)) a' w') a w := by
              intro fr' hR' hw hok'
              have hwop : ∀ {K : Act → World → Prop}, OpGo P o a w K → wop P ops i K a w := fun h => by unfold wop; simp only [ho, hw, if_true]; exact h
              cases hd : okDst cfg.N o.dst <;> rw [hd] at hok'
              · exact hok'.elim
              · simp only [cond_true] at hok'
                split at hok'
                · rename_i ns v orc' hop
                  obtain ⟨hn, hok2⟩ := needN_ok hok'
                  obtain ⟨hg, hr⟩ := op1_val hR' (Cok.none fr') hop hn
                  refine hwop (OpGo.value hr ⟨hS, next hnx hok2 (hR'.putS hd hg) (fun hz' => hS (mono hz'))⟩)
                · rename_i e hop
                  cases hcnd : (zdone Z ops.size (lst ops.size m) || (isNilH HS || (match e.tgt with | some _ => false | none => true))) && HS.lt nx <;> rw [hcnd] at hok'
                  · exact hok'.elim
                  · simp only [cond_true] at hok'
                    simp only [Bool.and_eq_true] at hcnd
                    obtain ⟨hn, hok2⟩ := needN_ok hok'
                    have hE := op1_eff hR' hnx (Cok.none fr') hop hn
                    refine hwop (eff_go hnx hd hR' hE hok2 ?_)
                    intro γ w' fr'' h1 h2 h3 h4 a' h5
                    subst h2
                    have hlk : Look cfg.w0 (β ++ γ) HS = Look cfg.w0 β HS := Look.append (by rw [← hnx]; exact hcnd.2)
                    have hS' : zdone Z ops.size (lst ops.size m) = false → Look cfg.w0 β HS w' := by
                      intro hz'
                      rw [hz'] at hcnd
                      simp only [Bool.false_or, Bool.or_eq_true] at hcnd
                      rcases hcnd.1 with h6 | h6
                      · have : HS = [] := by cases HS <;> simp_all [isNilH]
                        subst this
                        exact ⟨fun _ _ hg => (by simp [Hp.get] at hg), fun _ hg => (by simp [Hp.get] at hg), h5.sat.look.base⟩
                      · have ht : e.tgt = none := by
                          cases he : e.tgt with
                          | none => rfl
                          | some id => rw [he] at h6; cases h6
                        have hfrm := h4 ht
                        obtain ⟨l1, l2, l3⟩ := hS hz'
                        refine ⟨fun j lo hg hlo => ?_, l2, h5.sat.look.base⟩
                        have := l1 j lo hg hlo
                        rw [hfrm _ (Array.getElem?_eq_some_iff.1 this).1]; exact this
                    have hnext := next h1 h3 h5 (fun hz' => by rw [hlk]; exact hS' (mono hz'))
                    rw [hlk] at hnext
                    exact ⟨hS', hnext⟩
                · have := hok' hnx a w hR'
                  simp only [StkGo, hops, lst_set] at this
                  exact this
            split at hoki
            · rename_i hgd
              exact ex hR (guard_yes hR.agree hgd) hoki
            · exact hoki.elim
            · exact hoki.elim
            · rename_i c t wt hgd
              obtain ⟨hwn, v0, hv0, hc0⟩ := guard_sym hR.agree hgd
              cases hb2 : okDst cfg.N o.dst && Nat.blt t cfg.N <;> rw [hb2] at hoki
              · exact hoki.elim
              · simp only [cond_true] at hoki
                cases c with
                | true =>
                  obtain ⟨g1, g2⟩ := agree_litT hR.agree hR.gd hv0 hc0
                  exact ex (hR.frame g1 g2) hwn (hoki.1 rfl)
                | false =>
                  obtain ⟨g1, g2⟩ := agree_litF hR.agree hv0 hc0
                  unfold wop
                  simp only [ho, hwn, Bool.false_eq_true, if_false]
                  exact ⟨hS, next hnx (hoki.2 rfl) ((hR.frame g1 g2).delS o.dst undef) (fun hz' => hS (mono hz'))⟩

theorem run_sound (hm : P.follows .mixedOrders = true) : ∀ n, Sound P ro f Q cfg ds F n
  | 0 => fun _ _ _ hnx hok a w hR => hok hnx a w hR
  | n + 1 => by
    have ih := run_sound hm n
    intro s β hf hnx hok a w hR
    obtain ⟨stk, fr, H, nx, orc⟩ := s
    cases stk with
    | nil => rw [run] at hok; exact Goes.fin (hok a w hR)
    | cons x k =>
      have hk : flat k = true := hf
      cases x with
      | code p => exact sound_code ih hk hnx hok hm hR
      | blk id => rw [run] at hok; exact Goes.inBlock (ih.go hk hnx hok hR)
      | lp p => rw [run] at hok; exact hok hnx a w hR
      | scp p => rw [run] at hok; exact Goes.inScope (ih.go hk hnx hok hR)
      | reg p l => exact sound_reg ih hk hnx hok hR
      | dreg p m left Z HS => exact sound_dreg ih hk hnx hok hR
      | dop p m left Z HS i => rw [run] at hok; exact hok hnx a w hR
      | raw y => rw [run] at hok; exact hok hnx a w hR

end
end Go.E
