/-
  'run': from a state of a walk (what is still to be done, as paths into the function's text; the slots; the blocks) on to the next places where the
  prover has a say: a call, a loop, a cut, the end; with the conditions met on the way. 'run_sound': what is shown of those places is shown of the state.
-/
import Derived.Test.YtlgggljlegpaoaaE6
import Derived.Test.YtlgggljlegpaoaaE7
namespace Go.E

inductive It where
  | code (p : List Nat)
  | blk (id : Nat)
  | lp (p : List Nat)
  | scp (p : List Nat)
  | reg (p : List Nat) (todo : List Nat)
  | dreg (p : List Nat) (m n Z : Nat) (HS : Hp)
  | dop (p : List Nat) (m n Z : Nat) (HS : Hp) (i : Nat)
  | raw (x : Item)

def kid : Code → Nat → Code
  | .seq a b, i => (match i with | 0 => a | _ => b)
  | .cond _ a b, i => (match i with | 0 => a | _ => b)
  | .block _ a, _ => a
  | .loop a, _ => a
  | .scope a, _ => a
  | .rangeFunc _ _ a b, i => (match i with | 0 => a | _ => b)
  | _, _ => .refuse ""
def sub : Code → List Nat → Code
  | c, [] => c
  | c, i :: p => sub (kid c i) p
theorem sub_append : ∀ (p : List Nat) (c : Code) (q : List Nat), sub c (p ++ q) = sub (sub c p) q
  | [], _, _ => rfl
  | i :: p, c, q => sub_append p (kid c i) q

def opsOf : Code → Array Oper
  | .region _ ops _ => ops
  | _ => #[]

def It.item (c0 : Code) : It → Item
  | .code p => .code (sub c0 p)
  | .blk id => .inBlock id
  | .lp p => .inLoop (sub c0 p)
  | .scp p => .inScope (sub c0 p)
  | .reg p l => .inRegion (opsOf (sub c0 p)) l
  | .dreg _ _ _ _ _ => .inRegion #[] []
  | .dop _ _ _ _ _ _ => .inRegion #[] []
  | .raw x => x

structure Cfg where
  c0 : Code
  w0 : World
  live : List Nat
  cnds : List Nat
  stops : List Nat
  N : Nat
  /-- The blocks that a drawn region's loads may be told of (none: all). -/
  hs : Option (List Nat) := none

structure St where
  stk : List It
  fr : Fr
  H : Hp
  nx : Nat
  orc : List LV

inductive Res where
  | stop (s : St)
  | leave (x : Leave) (s : St)
  | need (ns : NeedL) (r : Res)
  | ite (b : Bool) (t e : Res)
  | new (r : Res)
  | both (x y : Res)
  | done
  | bad (why : String) (s : St)

def mem (l : List Nat) (t : Nat) : Bool := l.any (Nat.beq t)
def Fr.keep1 (l : List Nat) : Fr → Fr
  | [] => []
  | (k, v) :: r => bif mem l k then (k, v) :: Fr.keep1 l r else Fr.keep1 l r
def Fr.keep (fr : Fr) (l : List Nat) : Fr := fr.plain.keep1 l

def xto (id : Nat) : List It → Option (List It)
  | .blk i :: k => bif Nat.beq i id then some k else xto id k
  | .raw _ :: _ => none
  | _ :: k => xto id k
  | [] => none
def noRaw : List It → Bool
  | .raw _ :: _ => false
  | .dreg .. :: _ => false
  | .dop .. :: _ => false
  | _ :: k => noRaw k
  | [] => true

inductive Gd where
  | yes
  | no
  | sym (c : Bool) (t : Nat) (want : Bool)
  | bad

def guardOf (fr : Fr) (ops : Array Oper) (o : Oper) : Gd :=
  match o.guard with
  | none => .yes
  | some (j, want) => (match (ops[j]?).bind (·.dst) with
    | some t => (match fr.get t with
      | some (.cst (.bool b)) => bif eqb b want then .yes else .no
      | some v => (match condOf v want with
        | some c => .sym c t want
        | none => .bad)
      | none => .bad)
    | none => .bad)

/-- Where slot t is seen to bear 'want'. -/
def Fr.opens (t : Nat) (want : Bool) : Fr → Fr
  | [] => []
  | (k, v) :: r =>
    match v with
    | .gd t' w' _ x => bif (Nat.beq t' t && eqb w' want) && !x.isGd then (k, x) :: Fr.opens t want r else Fr.delk (Fr.opens t want r) k
    | v => (k, v) :: Fr.opens t want r
def litT (fr : Fr) (t : Nat) (want : Bool) : Fr := (fr.opens t want).put t (.cst (.bool want))
def litF (fr : Fr) (t : Nat) (want : Bool) : Fr :=
  match fr.get t with
  | some (.bool _) => fr.plain.put t (.cst (.bool (!want)))
  | _ => fr.plain.del t

def putS (fr : Fr) (dst : Option Nat) (v : LV) : Fr :=
  match dst with
  | some t => fr.put t v
  | none => fr
def delS (fr : Fr) (dst : Option Nat) : Fr :=
  match dst with
  | some t => fr.del t
  | none => fr
def okDst (N : Nat) : Option Nat → Bool
  | some t => Nat.blt t N
  | none => true

inductive Op1 where
  | val (ns : NeedL) (v : LV) (orc : List LV)
  | eff (e : Eff)
  | spec

def op1 (cfg : Cfg) (P : Program) (fr : Fr) (H : Hp) (nx : Nat) (orc : List LV) (c : Ctx) (o : Oper) : Op1 :=
  match evalPure P fr c o with
  | some (v, ns) => bif v.isGd then .spec else .val ns v orc
  | none => (match evalLoad cfg.w0 P fr H orc c o with
    | some (v, ns, orc') => bif v.isGd then .spec else .val ns v orc'
    | none => (match evalEff P fr H nx c o with
      | some e => .eff e
      | none => .spec))

def under (c : Ctx) (ns : NeedL) : NeedL :=
  match c with
  | none => ns
  | some (_, _, b) => (match ns with
    | [] => []
    | _ => [fun β => b = true → allP β ns])
def wrapG (c : Ctx) (v : LV) : LV :=
  match c with
  | none => v
  | some (t, w, b) => .gd t w b v
/-- May a value under a condition be laid into the slot? -/
def okG (fr : Fr) (c : Ctx) (dst : Option Nat) : Bool :=
  match c, dst with
  | some (t, _, _), some d => !(fr.anyTag d) && !(Nat.beq t d)
  | _, _ => true

def needN (ns : NeedL) (r : Res) : Res :=
  match ns with
  | [] => r
  | _ => .need ns r
def newN (k : Bool) (r : Res) : Res := bif k then .new r else r

def bothN : List Res → Res
  | [] => .done
  | [x] => x
  | x :: r => .both x (bothN r)
def lst (n m : Nat) : Array Bool := (Array.range n).map fun i => m.testBit i

/-- A candidate to be taken first: its value (none: it is passed over), its conditions. -/
structure Fl where
  i : Nat
  v : Option LV
  ns : NeedL
  orc : List LV

def floatAt (cfg : Cfg) (P : Program) (fr : Fr) (HS : Hp) (orc : List LV) (Z : Nat) (zd : Bool) (i : Nat) (c : Ctx) (o : Oper) : Option Fl :=
  bif okG fr c o.dst then
  match evalPure P fr c o with
  | some (v, ns) => bif v.isGd then none else some { i := i, v := some (wrapG c v), ns := under c ns, orc := orc }
  | none => bif !zd && Z.testBit i then (match evalLoad cfg.w0 P fr HS orc c o with
    | some (v, ns, orc') => bif v.isGd then none else some { i := i, v := some (wrapG c v), ns := under c ns, orc := orc' }
    | none => none) else none
  else none

def float1 (cfg : Cfg) (P : Program) (fr : Fr) (HS : Hp) (orc : List LV) (ops : Array Oper) (listed : Array Bool) (Z : Nat) (zd : Bool) (i : Nat) : Option Fl :=
  match ops[i]? with
  | none => none
  | some o => bif Region.free .any ops listed i && okDst cfg.N o.dst then
      (match guardOf fr ops o with
      | .no => some { i := i, v := none, ns := [], orc := orc }
      | .bad => none
      | .yes => floatAt cfg P fr HS orc Z zd i none o
      | .sym c t w => floatAt cfg P fr HS orc Z zd i (some (t, w, c)) o) else none

def firstF (g : Nat → Option Fl) : List Nat → Option Fl
  | [] => none
  | i :: r => match g i with
    | some x => some x
    | none => firstF g r

def isStore (o : Oper) : Bool := match o.op with | .store .. => true | _ => false
def storeBits (ops : Array Oper) : Nat := (List.range ops.size).foldl (fun m i => match ops[i]? with | some o => bif isStore o then m ||| 2 ^ i else m | none => m) 0
def zOf (ops : Array Oper) : Nat :=
  let sb := storeBits ops
  (List.range ops.size).foldl (fun m i => bif sb.testBit i || !(Nat.beq (Nat.land (clz ops i) sb) 0) then m else m ||| 2 ^ i) 0
def isLoad (o : Oper) : Bool := match o.op with | .load .. => true | _ => false
def hasLoad (ops : Array Oper) : Bool := ops.toList.any isLoad
def isNilH : Hp → Bool
  | [] => true
  | _ => false

def dcB (ops : Array Oper) (listed : Array Bool) : Bool := (List.range ops.size).all fun j => !(listed.getD j false) || (match ops[j]? with
  | some o => o.after.toList.all fun e => !(Region.binds .any e) || listed.getD e.on false
  | none => true)

def Hp.onlyL (l : List Nat) : Hp → Hp
  | [] => []
  | (k, v) :: r => bif mem l k then (k, v) :: Hp.onlyL l r else Hp.onlyL l r
def Hp.only (H : Hp) : Option (List Nat) → Hp
  | none => H
  | some l => H.onlyL l

def run (cfg : Cfg) (P : Program) : Nat → St → Res
  | 0, s => .stop s
  | n + 1, s =>
    match s.stk with
    | [] => .leave .fin s
    | .blk _ :: k => run cfg P n { s with stk := k }
    | .scp _ :: k => run cfg P n { s with stk := k }
    | .lp _ :: _ => .stop s
    | .raw _ :: _ => .stop s
    | .dop .. :: _ => .stop s
    | .code p :: k =>
      (match sub cfg.c0 p with
      | .skip => run cfg P n { s with stk := k }
      | .label _ => run cfg P n { s with stk := k }
      | .seq _ _ => run cfg P n { s with stk := .code (p ++ [0]) :: .code (p ++ [1]) :: k }
      | .cond c _ _ => (match opv s.fr c with
        | some (.bool b) =>
          let fr := s.fr.keep cfg.live
          .ite b (run cfg P n { s with stk := .code (p ++ [0]) :: k, fr := fr }) (run cfg P n { s with stk := .code (p ++ [1]) :: k, fr := fr })
        | some (.cst (.bool b)) => run cfg P n { s with stk := .code (p ++ [bif b then 0 else 1]) :: k, fr := s.fr.keep cfg.live }
        | _ => .bad "cond" s)
      | .block id _ => run cfg P n { s with stk := .code (p ++ [0]) :: .blk id :: k }
      | .scope _ => run cfg P n { s with stk := .code (p ++ [0]) :: .scp (p ++ [0]) :: k }
      | .loop _ => .stop s
      | .rangeFunc .. => .stop s
      | .goto _ => .stop s
      | .refuse _ => .bad "refuse" s
      | .exit id => (match xto id k with
        | some k' => run cfg P n { s with stk := k' }
        | none => bif noRaw k then .leave (.exit id) s else .bad "exit" s)
      | .ret => .leave .ret s
      | .region id ops d =>
        bif mem cfg.stops id then .stop s
        else bif d then
          (bif Region.noSelect ops then (let z := zOf ops; bif zok z ops && hasLoad ops then run cfg P n { s with stk := .dreg p 0 ops.size z (s.H.only cfg.hs) :: k } else run cfg P n { s with stk := .dreg p 0 ops.size (2 ^ ops.size - 1) [] :: k }) else .bad "select" s)
        else run cfg P n { s with stk := .reg p (List.range ops.size) :: k })
    | .reg p [] :: k => run cfg P n { s with stk := k, fr := s.fr.keep (cfg.cnds ++ cfg.live) }
    | .reg p (i :: rest) :: k =>
      (match (opsOf (sub cfg.c0 p))[i]? with
      | none => run cfg P n { s with stk := .reg p rest :: k }
      | some o =>
        let ops := opsOf (sub cfg.c0 p)
        let ex (fr : Fr) : Res :=
          bif okDst cfg.N o.dst then
            (match op1 cfg P fr s.H s.nx s.orc none o with
            | .val ns v orc => needN ns (run cfg P n { s with stk := .reg p rest :: k, fr := putS fr o.dst v, orc := orc })
            | .eff e => needN e.ns (newN (Nat.blt s.nx e.nx) (run cfg P n { s with stk := .reg p rest :: k, fr := (match e.dst with | some v => putS fr o.dst v | none => delS fr o.dst), H := e.H, nx := e.nx }))
            | .spec => .stop { s with fr := fr })
          else .bad "dst" s
        (match guardOf s.fr ops o with
        | .yes => ex s.fr
        | .no => run cfg P n { s with stk := .reg p rest :: k, fr := delS s.fr o.dst }
        | .bad => .bad "guard" s
        | .sym c t want =>
          bif okDst cfg.N o.dst && (okG s.fr (some (t, want, c)) o.dst && Nat.blt t cfg.N) then
            (match op1 cfg P s.fr s.H s.nx s.orc (some (t, want, c)) o with
            | .val ns v orc => needN (under (some (t, want, c)) ns) (run cfg P n { s with stk := .reg p rest :: k, fr := putS s.fr o.dst (.gd t want c v), orc := orc })
            | _ => .ite c (ex (litT s.fr t want)) (run cfg P n { s with stk := .reg p rest :: k, fr := delS (litF s.fr t want) o.dst }))
          else .bad "dst" s))
    | .dreg p m left Z HS :: k =>
      let ops := opsOf (sub cfg.c0 p)
      let listed := lst ops.size m
      let zd := zdone Z ops.size listed
      bif dcB ops listed && (zok Z ops && Region.noSelect ops) then
        (match rdy ops listed with
        | [] => run cfg P n { s with stk := k, fr := s.fr.keep (cfg.cnds ++ cfg.live) }
        | rd => (match left with
          | 0 => .bad "left" s
          | left' + 1 =>
            (match firstF (float1 cfg P s.fr HS s.orc ops listed Z zd) rd with
            | some ⟨xi, xv, xns, xorc⟩ => (match ops[xi]? with
              | some o => needN xns (run cfg P n { s with stk := .dreg p (m ||| 2 ^ xi) left' Z HS :: k, fr := (match xv with | some v => putS s.fr o.dst v | none => delS s.fr o.dst), orc := xorc })
              | none => .bad "float" s)
            | none =>
              bothN (rd.map fun i => (match ops[i]? with
                | none => .bad "op" s
                | some o =>
                  let ex (fr : Fr) : Res :=
                    bif okDst cfg.N o.dst then
                      (match op1 cfg P fr s.H s.nx s.orc none o with
                      | .val ns v orc => needN ns (run cfg P n { s with stk := .dreg p (m ||| 2 ^ i) left' Z HS :: k, fr := putS fr o.dst v, orc := orc })
                      | .eff e =>
                        bif (zd || (isNilH HS || (match e.tgt with | some _ => false | none => true))) && HS.lt s.nx then
                          needN e.ns (newN (Nat.blt s.nx e.nx) (run cfg P n { s with stk := .dreg p (m ||| 2 ^ i) left' Z HS :: k, fr := (match e.dst with | some v => putS fr o.dst v | none => delS fr o.dst), H := e.H, nx := e.nx }))
                        else .bad "store beside" s
                      | .spec => .stop { s with stk := .dop p m left' Z HS i :: k, fr := fr })
                    else .bad "dst" s
                  (match guardOf s.fr ops o with
                  | .yes => ex s.fr
                  | .no => .bad "guard no" s
                  | .bad => .bad "guard" s
                  | .sym c t want => bif okDst cfg.N o.dst && Nat.blt t cfg.N then .ite c (ex (litT s.fr t want)) (run cfg P n { s with stk := .dreg p (m ||| 2 ^ i) left' Z HS :: k, fr := delS (litF s.fr t want) o.dst }) else .bad "dst" s))))))
      else .bad "dreg" s

def Res.ok (G : List Nat → St → Prop) (L : List Nat → Leave → St → Prop) : List Nat → Res → Prop
  | β, .stop s => G β s
  | β, .leave x s => L β x s
  | β, .need ns r => allP β ns ∧ r.ok G L β
  | β, .ite b t e => (b = true → t.ok G L β) ∧ (b = false → e.ok G L β)
  | β, .new r => ∀ b, r.ok G L (β ++ [b])
  | β, .both x y => x.ok G L β ∧ y.ok G L β
  | _, .done => True
  | _, .bad _ _ => False

end Go.E
