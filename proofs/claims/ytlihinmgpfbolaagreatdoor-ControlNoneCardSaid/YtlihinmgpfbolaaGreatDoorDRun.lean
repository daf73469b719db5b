/-
  The evaluator's code: regions, control, calls, ranges over functions. No proof.
-/
import Derived.Test.YtlihinmgpfbolaaGreatDoorDBase
namespace Go.Dx
noncomputable section

inductive DX where
  | nor
  | exit (id : Nat)
  | goto (l : Nat)
  | ret

/-- What waits for a function's end: the mark of a range over a function; a closure that does nothing where nothing panics. -/
inductive DM where
  | mark (r : Nat)
  | quiet (f : FuncId)

/-- How a piece of code ends: the way out, the slots, the marks of the ranges over functions, the state. -/
inductive Out where
  | fail
  | done (x : DX) (a : PM SV) (df : List DM) (s : St)

inductive CallR where
  | fail
  | ret (v : SV) (s : St)

abbrev Rec := Option Nat → FuncId → Nat → Code → PM SV → List DM → St → Out

def putD (nt : Nat) (a : PM SV) (dst : Option Tmp) (v : SV) : PM SV :=
  match dst with
  | none => a
  | some d => match Nat.blt d nt with
    | true => a.set d v
    | false => a
def resultsD (G : Ctx) (a : PM SV) (s : St) : List ResultVar → Option (List SV)
  | [] => some []
  | .tmp t :: rs => match a.get t with
    | none => none
    | some v => match resultsD G a s rs with
      | none => none
      | some l => some (v :: l)
  | .cell x t :: rs => match a.get x with
    | some (.ptr b o) => match loadD G s t b o with
      | none => none
      | some v => match resultsD G a s rs with
        | none => none
        | some l => some (v :: l)
    | _ => none
def one : List SV → SV
  | [v] => v
  | l => .tup l

/-- The marks of the ranges over functions, at a function's end. -/
def leaveD (G : Ctx) : List DM → St → Option St
  | [], s => some s
  | .mark r :: rs, s => match s.heap.get r with
    | some (.dfr true) => leaveD G rs { heap := s.heap.set r (.dfr false), next := s.next }
    | _ => none
  | .quiet f :: rs, s => match G.dq.get f, G.fns.get f with
    | some _, some _ => leaveD G rs s
    | _, _ => none

def finishD (G : Ctx) (fn : Func) : Out → CallR
  | .done .nor a df s | .done .ret a df s => match leaveD G df s with
    | none => .fail
    | some s => match resultsD G a s fn.results.toList with
      | some l => .ret (one l) s
      | none => .fail
  | _ => .fail

def b1 : SV → SV → Bool
  | .bool a, .bool b => beqB a b
  | .int k (.c m), .int j (.c n) => match Nat.beq (kn k) (kn j) with
    | true => ieq m n
    | false => false
  | .int k (.a i o), .int j (.a i' o') => match Nat.beq (kn k) (kn j), Nat.beq i i' with
    | true, true => ieq o o'
    | _, _ => false
  | .str a, .str b => leq a b
  | .nilp, .nilp => true
  | .ptr b o, .ptr b' o' => match Nat.beq b b' with
    | true => Nat.beq o o'
    | false => false
  | .nils, .nils => true
  | .sl b o n (.ex c), .sl b' o' n' (.ex c') => match Nat.beq b b', Nat.beq o o', Nat.beq n n' with
    | true, true, true => Nat.beq c c'
    | _, _, _ => false
  | .sl b o n (.sp c), .sl b' o' n' (.sp c') => match Nat.beq b b', Nat.beq o o', Nat.beq n n' with
    | true, true, true => Nat.beq c c'
    | _, _, _ => false
  | .nilm, .nilm => true
  | .map b, .map b' => Nat.beq b b'
  | .nilf, .nilf => true
  | .nili, .nili => true
  | .opq i, .opq j => Nat.beq i j
  | _, _ => false
def bL : List SV → List SV → Bool
  | [], [] => true
  | x :: xs, y :: ys => match b1 x y with
    | true => bL xs ys
    | false => false
  | _, _ => false
def orcMatch (s : St) (args : List SV) : OPat → Bool
  | .args l => bL args l
  | .row n l => match args with
    | [.sl b o m (.ex c)] => match Nat.beq m n, Nat.beq c n, readD s b o l.length, s.heap.get b with
      | true, true, some cs, some (.blk _ _ _ _ false) => bL cs l
      | _, _, _, _ => false
    | _ => false
def enterFn (rec : Rec) (G : Ctx) (f : FuncId) (args : List SV) (s : St) : CallR :=
  match G.fns.get f with
  | none => .fail
  | some fn => match fn.body with
    | none => .fail
    | some c => match Nat.ble args.length fn.ntmps with
      | true => finishD G fn (rec none f fn.ntmps c (wr .nil 0 args) [] s)
      | false => .fail
def callD (rec : Rec) (G : Ctx) (f : FuncId) (args : List SV) (s : St) : CallR :=
  match G.orc.get f with
  | some o => match orcMatch s args o.pat with
    | true => .ret o.ans s
    | false => .fail
  | none => enterFn rec G f args s

def jumpOf : DX → Option Code
  | .nor => none
  | .ret => some .ret
  | .exit id => some (.exit id)
  | .goto l => some (.goto l)

def roundD (rec : Rec) (l : Nat) (args : List SV) (s : St) : CallR :=
  match s.heap.get l with
  | some (.loop .ready _ fn nt tmps ps asg body _) => match Nat.beq args.length ps.length with
    | false => .fail
    | true =>
      match rec (some l) fn nt asg ((ps.zip args).foldl (fun t p => putD nt t (some p.1) p.2) tmps) [] s with
      | .done .nor a [] s1 => match s1.heap.get l with
        | some (.loop .ready q1 f1 n1 t1 p1 a1 b1 d1) =>
          match rec (some l) fn nt body a [] { heap := s1.heap.set l (.loop .busy q1 f1 n1 t1 p1 a1 b1 d1), next := s1.next } with
          | .done x _ [] s2 => match s2.heap.get l with
            | some (.loop _ _ f2 n2 t2 p2 a2 b2 d2) =>
              .ret (.bool (jumpOf x).isNone) { heap := s2.heap.set l (.loop (match (jumpOf x).isNone with | true => .ready | false => .done) (jumpOf x) f2 n2 t2 p2 a2 b2 d2), next := s2.next }
            | _ => .fail
          | _ => .fail
        | _ => .fail
      | _ => .fail
  | _ => .fail

/-- An operation with what it calls. -/
def opD (rec : Rec) (G : Ctx) (a : PM SV) (s : St) (op : Op) : CallR :=
  match execD G a s op with
  | .fail => .fail
  | .val v s => .ret v s
  | .call f args => callD rec G f args s
  | .round l args => roundD rec l args s

/-- Is a guarded operation wanted? (none: not known) -/
def wantedD (ops : List Oper) (a : PM SV) (g : Option (Nat × Bool)) : Option Bool :=
  match g with
  | none => some true
  | some (j, w) => match nth ops j with
    | none => none
    | some o => match o.dst with
      | none => none
      | some d => match a.get d with
        | some (.bool b) => some (match b, w with | true, true => true | false, false => true | _, _ => false)
        | some (.tup []) => some false
        | _ => none

/-- Is it a 'defer', and of which closure? -/
def deferD (G : Ctx) (rnd : Option Nat) (a : PM SV) (op : Op) : Option (Option FuncId) :=
  match op with
  | .defer c => match rnd, c.callee with
    | none, .value f => match ev G a f with
      | some (.fn g _ _) => some (some g)
      | _ => some none
    | _, _ => some none
  | _ => none

def runOps (rec : Rec) (G : Ctx) (rnd : Option Nat) (nt : Nat) (all : List Oper) : List Oper → PM SV → List DM → St → Out
  | [], a, df, s => .done .nor a df s
  | o :: os, a, df, s =>
    match wantedD all a o.guard with
    | none => .fail
    | some false => runOps rec G rnd nt all os (putD nt a o.dst undefD) df s
    | some true => match deferD G rnd a o.op with
      | some (some f) => runOps rec G rnd nt all os (putD nt a o.dst undefD) (.quiet f :: df) s
      | some none => .fail
      | none => match opD rec G a s o.op with
        | .fail => .fail
        | .ret v s => runOps rec G rnd nt all os (putD nt a o.dst v) df s

/-! ## A region whose order is open -/
def bF : SV → SV → Bool
  | .fn f l c, .fn f' l' c' => match Nat.beq f f', bL l l' with
    | true, true => bL c c'
    | _, _ => false
  | x, y => b1 x y
def bLF : List SV → List SV → Bool
  | [], [] => true
  | x :: xs, y :: ys => match bF x y with
    | true => bLF xs ys
    | false => false
  | _, _ => false
def bV : SV → SV → Bool
  | .agg l, .agg m => bLF l m
  | .tup l, .tup m => bLF l m
  | x, y => bF x y

/-- An operation that looks at its operands alone. -/
def pureOp : Op → Bool
  | .move _ => true
  | .assign _ => true
  | .pick _ _ _ => true
  | .nilCheck _ => true
  | .binOp _ _ _ _ _ => true
  | .unOp _ _ _ => true
  | .makeInterface _ _ => true
  | .fieldAddr _ _ _ => true
  | .field _ _ _ => true
  | .indexAddr _ _ _ => true
  | .index _ _ _ => true
  | .slice _ _ _ _ _ => true
  | .extract _ _ => true
  | _ => false
/-- An operation that looks at memory and leaves it as it is. -/
def readOp : Op → Bool
  | .load _ _ => true
  | .lookup _ _ _ _ => true
  | .convert _ _ _ => true
  | .build _ _ => true
  | .call c => match c.callee with
    | .builtin .len => true
    | .builtin .min => true
    | .builtin .max => true
    | _ => false
  | _ => false
/-- What is made anew, whenever: a variable; a map. -/
inductive AK where
  | var (t : TypeId)
  | map
def akObj (G : Ctx) : AK → Option AObj
  | .var t => match G.zero t with
    | some z => some (.blk z.cells.length (wr .nil 0 z.cells) t false false)
    | none => none
  | .map => some (.map [] 0)
def akVal : AK → Nat → SV
  | .var _, id => .ptr id 0
  | .map, id => .map id
def allocOp : Op → Option AK
  | .alloc t => some (.var t)
  | .makeMap _ none => some .map
  | _ => none
def anchorOp (op : Op) : Bool := match pureOp op, readOp op, allocOp op with
  | false, false, none => true
  | _, _, _ => false

/-- The operations that come before each (a set of places as a number), by the edges. -/
def befores : List Oper → List Nat → List Nat
  | [], acc => acc
  | o :: os, acc => befores os (acc ++ [o.after.toList.foldl (fun s e => match Region.binds .any e with
    | true => Nat.lor (Nat.lor s (Nat.pow 2 e.on)) (match nth acc e.on with | some m => m | none => 0)
    | false => s) 0])
def isIn (m i : Nat) : Bool := Nat.testBit m i

def tmpsOf (o : Oper) : List Tmp := o.op.operands.toList.filterMap fun | .tmp t => some t | _ => none
/-- The slot whose value decides whether an operation is wanted. -/
def guardTmp (all : List Oper) (o : Oper) : List Tmp :=
  match o.guard with
  | none => []
  | some (j, _) => match nth all j with
    | some g => g.dst.toList
    | none => []
def looks (all : List Oper) (o : Oper) : List Tmp := tmpsOf o ++ guardTmp all o
/-- Whoever writes a slot that an operation looks at comes before it, or behind it; two never write one slot. -/
def slotsOk (all : List Oper) (bf : List Nat) : Bool :=
  all.zipIdx.all fun (o, i) => all.zipIdx.all fun (p, k) =>
    match p.dst with
    | none => true
    | some d => (!(looks all o).contains d || Nat.beq i k || (match nth bf i with | some m => isIn m k | none => false) || (match nth bf k with | some m => isIn m i | none => false)) && (Nat.beq i k || !(o.dst == some d))
/-- Edges lead back alone; the anchors stand in one row. -/
def edgesOk (all : List Oper) : Bool :=
  all.zipIdx.all fun (o, i) => o.after.toList.all fun e => match Region.binds .any e with
    | true => Nat.blt e.on i
    | false => true
def rowOk (bf : List Nat) : List (Oper × Nat) → Option Nat → Bool
  | [], _ => true
  | (o, i) :: os, last => match anchorOp o.op with
    | false => rowOk bf os last
    | true => match last with
      | none => rowOk bf os (some i)
      | some k => (match nth bf i with | some m => isIn m k | none => false) && rowOk bf os (some i)

inductive Ent where
  | skip
  | flt (v : SV) (a : PM SV)
  | alc (id : Nat)
  | anc (v : SV)

/-- The new variables whose places are chosen are laid. -/
def layBy (G : Ctx) (sel : Nat → Bool) : List (Nat × Nat × AK) → St → Option (List (Nat × Nat × AK) × St)
  | [], s => some ([], s)
  | (k, id, t) :: ps, s => match sel k with
    | true => match akObj G t, s.heap.get id with
      | some z, none => layBy G sel ps { heap := s.heap.set id z, next := s.next }
      | _, _ => none
    | false => match layBy G sel ps s with
      | some (r, s') => some ((k, id, t) :: r, s')
      | none => none

structure Drawn where
  a : PM SV
  s : St
  pend : List (Nat × Nat × AK)
  ts : List St
  ents : List Ent
  next : Nat

/-- One operation, in the text's order. -/
def step1 (rec : Rec) (G : Ctx) (nt : Nat) (all : List Oper) (bf : List Nat) (o : Oper) (i : Nat) (d : Drawn) : Option Drawn :=
  match wantedD all d.a o.guard with
  | none => none
  | some false => some { a := putD nt d.a o.dst undefD, s := d.s, pend := d.pend, ts := d.ts, ents := d.ents ++ [.skip], next := d.next }
  | some true =>
    match allocOp o.op with
    | some t => match akObj G t with
      | some _ => some { a := putD nt d.a o.dst (akVal t d.next), s := d.s, pend := d.pend ++ [(i, d.next, t)], ts := d.ts, ents := d.ents ++ [.alc d.next], next := Nat.succ d.next }
      | none => none
    | none => match anchorOp o.op with
      | false => match execD G d.a d.s o.op with
        | .val v _ => some { a := putD nt d.a o.dst v, s := d.s, pend := d.pend, ts := d.ts, ents := d.ents ++ [.flt v d.a], next := d.next }
        | _ => none
      | true => match nth bf i with
        | none => none
        | some m => match layBy G (isIn m) d.pend d.s with
          | none => none
          | some (p, u) => match opD rec G d.a u o.op with
            | .fail => none
            | .ret v s' => some { a := putD nt d.a o.dst v, s := s', pend := p, ts := d.ts ++ [s'], ents := d.ents ++ [.anc v], next := d.next }
/-- The operations in the text's order. -/
def pass1 (rec : Rec) (G : Ctx) (nt : Nat) (all : List Oper) (bf : List Nat) : List Oper → Nat → Drawn → Option Drawn
  | [], _, d => some d
  | o :: os, i, d => match step1 rec G nt all bf o i d with
    | none => none
    | some d => pass1 rec G nt all bf os (Nat.succ i) d

def countA : List Oper → Nat
  | [] => 0
  | o :: os => match allocOp o.op with
    | some _ => Nat.succ (countA os)
    | none => countA os
def isAnc : Ent → Bool
  | .anc _ => true
  | _ => false
/-- How many anchors must come before i, and how many may. -/
def loOf (m : Nat) : List Ent → Nat → Nat
  | [], _ => 0
  | e :: es, k => match isAnc e, isIn m k with
    | true, true => Nat.succ (loOf m es (Nat.succ k))
    | _, _ => loOf m es (Nat.succ k)
def hiOf (i : Nat) : List Ent → List Nat → Nat
  | e :: es, m :: ms => match isAnc e, isIn m i with
    | true, false => Nat.succ (hiOf i es ms)
    | _, _ => hiOf i es ms
  | _, _ => 0
def sameAt (G : Ctx) (a : PM SV) (op : Op) (v : SV) : List St → Bool
  | [] => true
  | t :: ts => match execD G a t op with
    | .val u _ => match bV u v with
      | true => sameAt G a op v ts
      | false => false
    | _ => false
def pass2 (G : Ctx) (ts : List St) (ents : List Ent) (bf : List Nat) : List Oper → List Ent → List Nat → Nat → Bool
  | o :: os, e :: es, m :: ms, i => match e with
    | .flt v a => match pureOp o.op with
      | true => pass2 G ts ents bf os es ms (Nat.succ i)
      | false => let lo := loOf m ents 0
        let hi := hiOf i ents bf
        match Nat.beq lo hi with
        | true => pass2 G ts ents bf os es ms (Nat.succ i)
        | false => match sameAt G a o.op v (ltake (Nat.succ (Nat.sub hi lo)) (ldrop lo ts)) with
          | true => pass2 G ts ents bf os es ms (Nat.succ i)
          | false => false
    | _ => pass2 G ts ents bf os es ms (Nat.succ i)
  | _, _, _, _ => true

def runDraw (rec : Rec) (G : Ctx) (nt : Nat) (all : List Oper) (a : PM SV) (df : List DM) (s : St) : Out :=
  let bf := befores all []
  match edgesOk all, slotsOk all bf, rowOk bf all.zipIdx none with
  | true, true, true =>
    let s0 : St := { heap := s.heap, next := Nat.add s.next (countA all) }
    match pass1 rec G nt all bf all 0 { a, s := s0, pend := [], ts := [s0], ents := [], next := s.next } with
    | none => .fail
    | some d => match pass2 G d.ts d.ents bf all d.ents bf 0 with
      | false => .fail
      | true => match layBy G (fun _ => true) d.pend d.s with
        | some (_, s') => .done .nor d.a df s'
        | none => .fail
  | _, _, _ => .fail

/-- The record of a range over a function. -/
def enterD (rnd : Option Nat) (fn : FuncId) (nt : Nat) (a : PM SV) (ps : List Tmp) (asg body : Code) (s : St) : Option (Nat × List DM × St) :=
  match rnd with
  | none =>
    let r := s.new (.dfr true)
    let l := r.2.new (.loop .ready none fn nt a ps asg body r.1)
    some (l.1, [.mark r.1], l.2)
  | some l0 => match s.heap.get l0 with
    | some (.loop _ _ _ _ _ _ _ _ d) =>
      let l := s.new (.loop .ready none fn nt a ps asg body d)
      some (l.1, [], l.2)
    | _ => none

def stepCode (G : Ctx) (rec : Rec) : Rec := fun rnd fn nt c a df s =>
  match c with
  | .skip => .done .nor a df s
  | .label _ => .done .nor a df s
  | .ret => .done .ret a df s
  | .exit id => .done (.exit id) a df s
  | .goto l => .done (.goto l) a df s
  | .region _ ops draw => match draw with
    | false => runOps rec G rnd nt ops.toList ops.toList a df s
    | true => runDraw rec G nt ops.toList a df s
  | .seq x y => match rec rnd fn nt x a df s with
    | .done .nor a df s => rec rnd fn nt y a df s
    | r => r
  | .cond c x y => match ev G a c with
    | some (.bool true) => rec rnd fn nt x a df s
    | some (.bool false) => rec rnd fn nt y a df s
    | _ => .fail
  | .block id x => match rec rnd fn nt x a df s with
    | .done (.exit i) a df s => match Nat.beq i id with
      | true => .done .nor a df s
      | false => .done (.exit i) a df s
    | r => r
  | .loop x => match rec rnd fn nt x a df s with
    | .done .nor a df s => rec rnd fn nt (.loop x) a df s
    | r => r
  | .scope x => match rnd with
    | some _ => .fail
    | none => match rec none fn nt x a df s with
      | .done (.goto l) a df s => match findLabel x l with
        | some rest => match rec none fn nt rest a df s with
          | .done (.goto _) _ _ _ => .fail
          | r => r
        | none => .fail
      | r => r
  | .rangeFunc f ps asg body => match enterD rnd fn nt a ps.toList asg body s with
    | none => .fail
    | some (l, mark, s) => match ev G a f with
      | some (.fn g first cap) => match enterFn rec G g (first ++ [.yld l] ++ cap) s with
        | .fail => .fail
        | .ret _ s => match s.heap.get l with
          | some (.loop st pend fn' nt' tmps ps asg body dfr) => match st with
            | .busy => .fail
            | _ =>
              let s := { s with heap := s.heap.set l (.loop .exhausted pend fn' nt' tmps ps asg body dfr) }
              match pend with
              | none => .done .nor a (mark ++ df) s
              | some j => rec rnd fn nt j a (mark ++ df) s
          | _ => .fail
      | _ => .fail
  | .refuse _ => .fail

def run (G : Ctx) (n : Nat) : Rec := Nat.rec (motive := fun _ => Rec) (fun _ _ _ _ _ _ _ => .fail) (fun _ ih => stepCode G ih) n

def calls (G : Ctx) (n : Nat) (f : FuncId) (args : List SV) (s : St) : CallR := callD (run G n) G f args s

end
end Go.Dx
