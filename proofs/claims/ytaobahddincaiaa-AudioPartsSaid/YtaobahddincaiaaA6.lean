/- Layer 20: the calls' contracts, told without where things lie; 'same' and 'Is'. -/
import Derived.Test.YtaobahddincaiaaA5
namespace Go.Proofs.Ytaobahddincaiaa
open Go Go.E Go.Proofs

def fwdA (bf bl : Nat) (room : Int) (L : List LisA) : HP := exi fun ls : List LisM => pur (Wf ls ∧ abss ls = L) * fwd bf bl room ls

theorem fwdA_open {bf bl : Nat} {room : Int} {L : List LisA} {w0 : World} {F : HP} {w : World} (h : Sat w0 (fwdA bf bl room L * F) w) : ∃ ls, Wf ls ∧ abss ls = L ∧ Sat w0 (fwd bf bl room ls * F) w := by
  obtain ⟨ls, h⟩ := h.exi
  rw [star_assoc] at h
  obtain ⟨⟨h1, h2⟩, h3⟩ := h.pure
  exact ⟨ls, h1, h2, h3⟩
theorem fwdA_shut {bf bl : Nat} {room : Int} {ls : List LisM} {w0 : World} {F : HP} {w : World} (h1 : Wf ls) (h : Sat w0 (fwd bf bl room ls * F) w) : Sat w0 (fwdA bf bl room (abss ls) * F) w := by
  refine Sat.toExi ls ?_
  rw [star_assoc]
  exact h.toPure ⟨h1, rfl⟩
theorem abss_get {ls : List LisM} {k : Nat} {a : LisA} (h : (abss ls)[k]? = some a) : ∃ x, ls[k]? = some x ∧ x.toLis.abs = a := by
  simpa [abss] using h
theorem abss_len (ls : List LisM) : (abss ls).length = ls.length := by simp [abss]

def newA (b : Bool) : LisA := ⟨b, List.replicate 16 ⟨false, 0, 0, 0⟩, [], 0⟩

section
variable {bf bl : Nat} {room : Int} {L : List LisA} {w0 : World} {F : HP} {w : World}

theorem newA_spec (n : Nat) (hn : n = 2 ∨ n = 3) (room : Int) (hs : Sat w0 F w) :
    Calls Try.prog 6 #[.int .i64 n, .int .i64 room] w fun e w' => ∃ bf bl, e = .returned (.pointer (some ⟨bf, 0, none⟩)) ∧ Sat w0 (fwdA bf bl (clampI room 64) (List.replicate n (newA false)) * F) w' :=
  (new_spec n hn room hs).mono fun e w' ⟨bf, bl, h1, h2⟩ => ⟨bf, bl, h1, by
    have := fwdA_shut (ls := List.replicate n (newLis false)) (fun x hx => by rw [List.eq_of_mem_replicate hx]; rfl) h2
    have e : abss (List.replicate n (newLis false)) = List.replicate n (newA false) := by simp only [abss, List.map_replicate]; rfl
    rwa [e] at this⟩

theorem listenA_spec {k : Nat} {a : LisA} (hk : L[k]? = some a) (ha : a.listens = false) (hs : Sat w0 (fwdA bf bl room L * F) w) :
    Calls Try.prog 7 #[.pointer (some ⟨bf, 0, none⟩), .int .i64 k] w fun e w' => e = .returned (.int .i64 0) ∧ Sat w0 (fwdA bf bl room (L.set k (newA true)) * F) w' := by
  obtain ⟨ls, hwf, rfl, hq⟩ := fwdA_open hs
  obtain ⟨x, hx, rfl⟩ := abss_get hk
  refine (listen_spec bf bl room ls hwf k x hx ha hq).mono fun e w' ⟨h1, h2⟩ => ⟨h1, ?_⟩
  have := fwdA_shut (ls := ls.set k (newLis true)) (fun z hz => by
    rcases List.mem_or_eq_of_mem_set hz with h | h
    · exact hwf z h
    · rw [h]; rfl) h2
  have e : abss (ls.set k (newLis true)) = (abss ls).set k (newA true) := by simp only [abss, List.map_set]; rfl
  rwa [e] at this

theorem waitingA_spec {k : Nat} {a : LisA} (hk : L[k]? = some a) (hs : Sat w0 (fwdA bf bl room L * F) w) :
    Calls Try.prog 10 #[.pointer (some ⟨bf, 0, none⟩), .int .i64 k] w fun e w' => e = .returned (.int .i64 a.wait.length) ∧ Sat w0 (fwdA bf bl room L * F) w' := by
  obtain ⟨ls, hwf, rfl, hq⟩ := fwdA_open hs
  obtain ⟨x, hx, rfl⟩ := abss_get hk
  refine (waiting_spec bf bl room ls hwf k x hx hq).mono fun e w' ⟨h1, h2⟩ => ⟨?_, fwdA_shut hwf h2⟩
  rw [h1]; simp [Lis.abs]

theorem lostA_spec {k : Nat} {a : LisA} (hk : L[k]? = some a) (hs : Sat w0 (fwdA bf bl room L * F) w) :
    Calls Try.prog 12 #[.pointer (some ⟨bf, 0, none⟩), .int .i64 k] w fun e w' => e = .returned (.int .i64 a.lost) ∧ Sat w0 (fwdA bf bl room L * F) w' := by
  obtain ⟨ls, hwf, rfl, hq⟩ := fwdA_open hs
  obtain ⟨x, hx, rfl⟩ := abss_get hk
  exact (lost_spec bf bl room ls hwf k x hx hq).mono fun e w' ⟨h1, h2⟩ => ⟨h1, fwdA_shut hwf h2⟩

theorem hearA_spec {party : Nat} {a : LisA} (hk : L[party]? = some a) (ha : a.listens = true) (p : Pkt) (hr : rightE p = 0) (hp16 : party < 16) (hn16 : L.length ≤ 16) (hwt : ∀ y ∈ L, y.wait.length ≤ 1000) (hs : Sat w0 (fwdA bf bl room L * (p.hp * F)) w) :
    Calls Try.prog 8 #[.pointer (some ⟨bf, 0, none⟩), .int .i64 party, p.val] w fun e w' => e = .returned (.tuple #[.int .i64 (hearTo party p.abs room L L.length).1, .int .i64 0]) ∧ Sat w0 (fwdA bf bl room (hearTo party p.abs room L L.length).2 * (p.hp * F)) w' := by
  obtain ⟨ls, hwf, rfl, hq⟩ := fwdA_open hs
  obtain ⟨x, hx, rfl⟩ := abss_get hk
  rw [abss_len] at *
  refine (hear_spec bf bl room ls hwf party x hx ha p hr hp16 hn16 (fun y hy => ?_) hq).mono fun e w' ⟨ls', h1, h2, h3, h4⟩ => ⟨h3, ?_⟩
  · have := hwt y.toLis.abs (List.mem_map.2 ⟨y, hy, rfl⟩)
    simpa [Lis.abs] using this
  · rw [← h2]; exact fwdA_shut h1 h4

theorem pullA_none {k : Nat} {a : LisA} (hk : L[k]? = some a) (ha : a.wait = []) (hs : Sat w0 (fwdA bf bl room L * F) w) :
    Calls Try.prog 9 #[.pointer (some ⟨bf, 0, none⟩), .int .i64 k] w fun e w' => e = .returned (.tuple #[noPkt.val, .bool false]) ∧ Sat w0 (fwdA bf bl room L * F) w' := by
  obtain ⟨ls, hwf, rfl, hq⟩ := fwdA_open hs
  obtain ⟨x, hx, rfl⟩ := abss_get hk
  exact (pull_none bf bl room ls hwf k x hx (by simpa [Lis.abs] using ha) hq).mono fun e w' ⟨h1, h2⟩ => ⟨h1, fwdA_shut hwf h2⟩

theorem pullA_spec {k : Nat} {a : LisA} {pa : PktA} {rest : List PktA} (hk : L[k]? = some a) (ha : a.wait = pa :: rest) (hw : a.wait.length ≤ 100000) (hs : Sat w0 (fwdA bf bl room L * F) w) :
    Calls Try.prog 9 #[.pointer (some ⟨bf, 0, none⟩), .int .i64 k] w fun e w' => ∃ p : Pkt, p.abs = pa ∧ e = .returned (.tuple #[p.val, .bool true]) ∧ Sat w0 (fwdA bf bl room (L.set k { a with wait := rest }) * (p.hp * F)) w' := by
  obtain ⟨ls, hwf, rfl, hq⟩ := fwdA_open hs
  obtain ⟨x, hx, rfl⟩ := abss_get hk
  have ha' : x.wait.map Pkt.abs = pa :: rest := ha
  obtain ⟨p, r, hxw, hp, hr⟩ : ∃ p r, x.wait = p :: r ∧ p.abs = pa ∧ r.map Pkt.abs = rest := by
    cases hq : x.wait with
    | nil => rw [hq] at ha'; simp at ha'
    | cons p r => rw [hq] at ha'; simp at ha'; exact ⟨p, r, rfl, ha'.1, ha'.2⟩
  have hxo := hwf x (List.mem_of_getElem? hx)
  refine (pull_spec bf bl room ls hwf k x hx p r hxw (by simpa [Lis.abs] using hw) hq).mono fun e w' ⟨x', h1, h2, h3⟩ => ⟨p, hp, h2, ?_⟩
  have := fwdA_shut (ls := ls.set k x') (fun z hz => by
    rcases List.mem_or_eq_of_mem_set hz with h | h
    · exact hwf z h
    · rw [h, show x'.of = x.of by rw [h1]]; exact hxo) h3
  have e : abss (ls.set k x') = (abss ls).set k { x.toLis.abs with wait := rest } := by
    simp only [abss, List.map_set]; rw [h1, ← hr]; rfl
  rwa [e] at this
end

theorem same_spec (b1 b2 : Option Addr) (n1 c1 n2 c2 : Nat) (s1 s2 : ByteArray) {w0 : World} {F : HP} {w : World} (hs : Sat w0 F w) (h1 : ∀ w, Sat w0 F w → (convert 31 9 (.slice b1 n1 c1)).run Try.prog w = .ok (.string s1) w)
    (h2 : ∀ w, Sat w0 F w → (convert 31 9 (.slice b2 n2 c2)).run Try.prog w = .ok (.string s2) w) :
    Calls Try.prog 11 #[.slice b1 n1 c1, .slice b2 n2 c2] w fun e w' => e = .returned (.bool (s1.toList == s2.toList)) ∧ Sat w0 F w' := by
  refine Calls.enter (cfg := cfg11 w0) (β := []) (H := []) (F := F) (l := [.raw (.slice b1 n1 c1), .raw (.slice b2 n2 c2)]) Try.func11 rfl rfl (Nat.le_of_ble_eq_true rfl) rfl (hs.eq (one_mul F).symm) ?_
  refine Go.run mixed 300 [] rfl ?_
  refine Ok.eq (r' := Res.stop { stk := [It.reg [1, 0] [1, 2, 3, 4, 5], It.code [1, 1]], fr := [(5, LV.raw (Value.slice b1 n1 c1)), (4, LV.cst (Value.bool false)), (0, LV.raw (Value.slice b1 n1 c1)), (1, LV.raw (Value.slice b2 n2 c2))], H := [], nx := 0, orc := [] }) (by kernel_rfl) ?_
  refine fun _ => Go.conv (.str s1) rfl rfl rfl rfl rfl rfl (fun w hs => h1 w hs.right) ?_
  refine Go.run mixed 300 [] rfl ?_
  refine Ok.eq (r' := Res.stop { stk := [It.reg [1, 0] [3, 4, 5], It.code [1, 1]], fr := [(7, LV.raw (Value.slice b2 n2 c2)), (6, LV.str s1), (5, LV.raw (Value.slice b1 n1 c1)), (4, LV.cst (Value.bool false)), (0, LV.raw (Value.slice b1 n1 c1)), (1, LV.raw (Value.slice b2 n2 c2))], H := [], nx := 0, orc := [] }) (by kernel_rfl) ?_
  refine fun _ => Go.conv (.str s2) rfl rfl rfl rfl rfl rfl (fun w hs => h2 w hs.right) ?_
  refine Go.run mixed 300 [] rfl ?_
  refine Ok.eq (r' := Res.leave Leave.ret { stk := [It.code [1, 1]], fr := [(4, LV.bool (ByteArray.toList s1 == ByteArray.toList s2)), (0, LV.raw (Value.slice b1 n1 c1)), (1, LV.raw (Value.slice b2 n2 c2))], H := [], nx := 0, orc := [] }) (by kernel_rfl) ?_
  exact leave_ok (fun _ => nofun) rfl fun w hs => ⟨rfl, hs.right⟩

/-- 'Is', of one octet. -/
theorem is_spec (x : Int) (b : Nat) {w0 : World} {F : HP} {w : World} (hs : Sat w0 (pt b (.cells #[.int .u8 x] 5) * F) w) :
    Calls Try.prog 13 #[.slice (some ⟨b, 0, none⟩) 1 1] w fun e w' => e = .returned (.bool (decide (x ≥ 128) && decide (x ≤ 191))) ∧ Sat w0 (pt b (.cells #[.int .u8 x] 5) * F) w' := by
  refine Calls.enter (cfg := cfg13 w0) (β := [b]) (H := [(0, .lay [.int .u8 x] 5)]) (F := F) (l := [.sl 0 0 1 1]) Try.func13 rfl rfl (Nat.le_of_ble_eq_true rfl) rfl (hs.eq ?_) ?_
  · simp [satH, atom, denO, bk, mul_one, denL, den]
  refine Go.run mixed 300 [] rfl ?_
  refine Ok.eq (r' := Res.need [fun β ↦ true = true → allP β [fun x ↦ (0 : Int) ≤ (0 : Int) ∧ (0 : Int) < (↑1 : Int)]] (Res.need [fun β ↦ (true && decide (x ≥ (128 : Int))) = true → allP β [fun x ↦ (0 : Int) ≤ (0 : Int) ∧ (0 : Int) < (↑1 : Int)]] (Res.leave Leave.ret { stk := [It.code [1, 1]], fr := [(2, LV.bool (true && decide (x ≥ (128 : Int)) && decide (x ≤ (191 : Int)))), (0, LV.sl 0 0 1 1)], H := [(0, LO.lay [LV.int IntKind.u8 x] 5)], nx := 1, orc := [] }))) (by kernel_rfl) ?_
  refine ⟨⟨fun _ => ⟨by simp, trivial⟩, trivial⟩, ⟨fun _ => ⟨by simp, trivial⟩, trivial⟩, leave_ok (fun _ => nofun) rfl fun w hs => ⟨?_, hs.eq ?_⟩⟩
  · simp [den]
  · simp [satH, atom, denO, bk, mul_one, denL, den]

end Go.Proofs.Ytaobahddincaiaa
