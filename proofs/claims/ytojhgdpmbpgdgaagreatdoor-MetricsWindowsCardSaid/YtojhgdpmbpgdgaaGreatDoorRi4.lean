/-
  Ri, part H: code on the abstract memory; what follows is handed on.
-/
import Derived.Test.YtojhgdpmbpgdgaaGreatDoorRi3
namespace Go.Ri
variable {β : Type}

abbrev K (β : Type) := T Value → AH → Option β
abbrev KV (β : Type) := Value → AH → Option β
abbrev Caller (β : Type) := FuncId → Array Value → AH → KV β → Option β

/-- An operation, read whole: its guard, its place, what it does. -/
inductive DOp where
  | mk (g : Option (Option Pos × Bool)) (d : Option Pos) (o : AOp)

def dstOk (sz : Nat) (d : Option Tmp) : Bool := match d with
  | none => true
  | some d => match Nat.blt d sz with
    | true => Nat.blt d roof
    | false => false

def guardOk (sz : Nat) (ops : Array Oper) (o : Oper) : Bool := match o.guard with
  | none => true
  | some (j, _) => match ((ops[j]?).bind (·.dst) : Option Tmp) with
    | none => false
    | some d => dstOk sz (some d)

def decOp (C : Cfg) (P : Program) (sz : Nat) (ops : Array Oper) (o : Oper) : DOp :=
  match dstOk sz o.dst, guardOk sz ops o with
  | true, true => .mk (match o.guard with
      | none => none
      | some (j, w) => some ((((ops[j]?).bind (·.dst)).map (posOf 40)), w)) (o.dst.map (posOf 40)) (decode C P o)
  | _, _ => .mk none none .bad

noncomputable def putA (d : Option Pos) (v : Value) (next : K β) (t : T Value) (h : AH) : Option β :=
  @Option.rec Pos (fun _ => Option β) (next t h) (fun p => next (setP v p t) h) d

noncomputable def guardIs (v : Value) (w : Bool) : Bool := match v with
  | .bool b => Bool.rec (!w) w b
  | _ => false
noncomputable def wantedA (g : Option (Option Pos × Bool)) : T Value → Bool :=
  match g with
  | none => fun _ => true
  | some (none, _) => fun _ => false
  | some (some p, w) => fun t => guardIs (getP t p) w

noncomputable def didK (call : Caller β) (d : Option Pos) (next : K β) (t : T Value) : Did → Option β :=
  @Did.rec (fun _ => Option β) (fun v h' => putA d v next t h') (fun f args h' => call f args h' fun v h'' => putA d v next t h'')

noncomputable def doOp (P : Program) (call : Caller β) (d : Option Pos) (o : AOp) (next : K β) (t : T Value) (h : AH) : Option β :=
  @Option.rec Did (fun _ => Option β) none (didK call d next t) (dyn P o t h)

noncomputable def runOp (P : Program) (call : Caller β) (next : K β) : DOp → K β :=
  @DOp.rec (fun _ => K β) (fun g d o t h => @Bool.rec (fun _ => Option β) (putA d undef next t h) (doOp P call d o next t h) (wantedA g t))

noncomputable def runOps (P : Program) (call : Caller β) (next : K β) (l : List DOp) : K β :=
  @List.rec DOp (fun _ => K β) next (fun o _ ih => runOp P call ih o) l

inductive AExit where
  | exit (id : Nat)
  | goto (l : Nat)
  | ret

abbrev KX (β : Type) := AExit → K β
abbrev Runner (β : Type) := Nat → Code → K β → KX β → K β

/-- A run that changes nothing. -/
noncomputable def rsem (P : Program) : Sem Value → AH → Option Value
  | .pure a, _ => some a
  | .load _ a k, h => match h.cell? a with
    | some v => rsem P (k v) h
    | none => none
  | .shape r k, h => match h.get r with
    | some (.cells c e _ _ false) => rsem P (k (some (e, c.length))) h
    | some (.map _ _) => rsem P (k none) h
    | _ => none
  | .frozen a k, h => match h.get a.block with
    | some (.cells _ _ lo hi _) => rsem P (k (isIn lo hi a.off)) h
    | _ => none
  | .getObj r k, h => match h.get r with
    | some (.map es c) => rsem P (k (.map es.toArray c)) h
    | _ => none
  | .choose q k, h => match q.forced with
    | true => rsem P (k 0) h
    | false => none
  | .program k, h => rsem P (k P) h
  | .mark _ k, h => rsem P k h
  | _, _ => none

noncomputable def resCell (P : Program) (ty : TypeId) (x : Value) (h : AH) : Option Value := match x with
  | .pointer (some x) => rsem P (loadVar ty x) h
  | _ => none
noncomputable def resultsA (P : Program) (t : T Value) (h : AH) : List ResultVar → Option (List Value)
  | [] => some []
  | .tmp i :: l => match Nat.blt i roof, resultsA P t h l with
    | true, some vs => some (getP t (posOf 40 i) :: vs)
    | _, _ => none
  | .cell i ty :: l => match Nat.blt i roof, resCell P ty (getP t (posOf 40 i)) h, resultsA P t h l with
    | true, some v, some vs => some (v :: vs)
    | _, _, _ => none

noncomputable def resultA (P : Program) (fn : Func) (t : T Value) (h : AH) : Option Value :=
  match resultsA P t h fn.results.toList with
  | some [v] => some v
  | some vs => some (.tuple vs.toArray)
  | none => none

noncomputable def enterA (l : List Value) : Nat → T Value → T Value :=
  @List.rec Value (fun _ => Nat → T Value → T Value) (fun _ t => t) (fun v _ ih i t => ih (i + 1) (setP v (posOf 40 i) t)) l

noncomputable def finA (P : Program) (fn : Func) (k : KV β) (t : T Value) (h : AH) : Option β := match resultA P fn t h with
  | some v => k v h
  | none => none
def finX (fin : K β) : KX β := fun x => match x with
  | .ret => fin
  | _ => fun _ _ => none

noncomputable def bodyA (P : Program) (run : Runner β) (fn : Func) (c : Code) (args : Array Value) (h : AH) (k : KV β) : Option β :=
  match Nat.blt fn.ntmps roof, Nat.ble args.size fn.ntmps with
  | true, true => run fn.ntmps c (finA P fn k) (finX (finA P fn k)) (enterA args.toList 0 .leaf) h
  | _, _ => none

noncomputable def toldA (k : KV β) : Option (Value × AH) → Option β
  | some (v, h) => k v h
  | none => none

noncomputable def callA (C : Cfg) (P : Program) (run : Runner β) : Caller β := fun f args h k =>
  match C.own f with
  | some g => toldA k (g args.toList h)
  | none => match P.funcs[f]? with
    | none => none
    | some fn => match fn.body with
      | none => none
      | some c => bodyA P run fn c args h k

noncomputable def loopA (body : K β → K β) (n : Nat) : K β :=
  @Nat.rec (fun _ => K β) (fun _ _ => none) (fun _ ih => body ih) n

noncomputable def scopeX (body : Code) (ih : Code → K β) (kx : KX β) : KX β := fun x => match x with
  | .goto l => match findLabel body l with
    | some rest => ih rest
    | none => kx (.goto l)
  | x => kx x
noncomputable def scopeA (run : Code → K β → KX β → K β) (body : Code) (kn : K β) (kx : KX β) (n : Nat) : Code → K β :=
  @Nat.rec (fun _ => Code → K β) (fun _ _ _ => none) (fun _ ih c => run c kn (scopeX body ih kx)) n

def blockX (id : Nat) (kn : K β) (kx : KX β) : KX β := fun x => match x with
  | .exit id' => match Nat.beq id' id with
    | true => kn
    | false => kx (.exit id')
  | x => kx x

noncomputable def condA (v : Value) (x y : Option β) : Option β := match v with
  | .bool b => Bool.rec y x b
  | _ => none
noncomputable def condK (o : Opd) (x y : K β) (t : T Value) (h : AH) : Option β := condA (evO t o) (x t h) (y t h)

/-! ### Regions whose order is drawn -/
/-- A run that lays one block, and no more. -/
def nsem (P : Program) : Sem Value → Option (AObj × (Nat → Option Value))
  | .new o k => match AObj.of o with
    | some ao => some (ao, fun r => psem P (k r))
    | none => none
  | .program k => nsem P (k P)
  | .mark _ k => nsem P k
  | _ => none

/-- How an operation may be moved in its region. -/
inductive Kind where
  | pure | read | new | eff

def kindOf (o : Oper) : Kind := match o.op with
  | .alloc _ | .box .. | .buildSlice .. | .makeMap .. => .new
  | .load .. | .lookup .. | .slice .. => .read
  | .convert s d _ => .read
  | .call c => match c.callee with
    | .builtin .append | .builtin .copy | .builtin .unsafeString => .eff
    | .builtin _ => .pure
    | _ => .eff
  | .store .. | .mapUpdate .. | .makeSlice .. => .eff
  | _ => .pure

def didVal : OD → Option Value
  | some (.value v _) => some v
  | _ => none
/-- The value of an operation that neither looks at the memory nor changes it. -/
noncomputable def aPure (P : Program) (o : AOp) : T Value → Option Value := match o with
  | .mv x => fun t => some (evO t x)
  | .pk c a b => fun t => didVal (dPk c a b t ⟨.leaf, 0⟩)
  | .fa off x => fun t => didVal (dFa off x t ⟨.leaf, 0⟩)
  | .ixs sz x i => fun t => didVal (dIxs sz x i t ⟨.leaf, 0⟩)
  | .ixa sz len x i => fun t => didVal (dIxa sz len x i t ⟨.leaf, 0⟩)
  | .nc x => fun t => didVal (dNc x t ⟨.leaf, 0⟩)
  | .ex i x => fun t => didVal (dEx i x t ⟨.leaf, 0⟩)
  | .mf f a b => fun t => didVal (dMf f a b t ⟨.leaf, 0⟩)
  | .plain f xs => fun t => didVal (dPlain P f xs t ⟨.leaf, 0⟩)
  | .bin sm op ty d x y => fun t => didVal (dBin P sm op ty d x y t ⟨.leaf, 0⟩)
  | .nilI n x => fun t => didVal (dNilI n x t ⟨.leaf, 0⟩)
  | .len str x => fun t => didVal (dLen str x t ⟨.leaf, 0⟩)
  | .sld x => fun t => didVal (dSld x t ⟨.leaf, 0⟩)
  | .tree f xs => fun t => psem P (f (evs t xs))
  | _ => fun t => none
noncomputable def rLook (P : Program) (ty : TypeId) (ok : Bool) (x k : Value) (h : AH) : Option Value := match plainS k with
  | true => rsem P (Instr.lookup ty x k ok) h
  | false => none
/-- The value of an operation that looks at the memory and does not change it. -/
noncomputable def aRead (P : Program) (o : AOp) : T Value → AH → Option Value := match o with
  | .ld x => fun t h => didVal (dLd x t h)
  | .sl e sz x lo hi mx => fun t h => didVal (dSl e sz x lo hi mx t h)
  | .sla sz len x lo hi mx => fun t h => didVal (dSla sz len x lo hi mx t h)
  | .b2s x => fun t h => didVal (dB2s x t h)
  | .look ty ok x k => fun t h => rLook P ty ok (evO t x) (evO t k) h
  | .tree f xs => fun t h => rsem P (f (evs t xs)) h
  | o => fun t h => aPure P o t
noncomputable def aNew (P : Program) (o : AOp) (t : T Value) : Option (AObj × (Nat → Option Value)) := match o with
  | .tree f xs => nsem P (f (evs t xs))
  | _ => none

def sameB : List UInt8 → List UInt8 → Bool
  | [], [] => true
  | a :: l, b :: m => match Nat.beq a.toNat b.toNat with
    | true => sameB l m
    | false => false
  | _, _ => false
def sameI (a b : Int) : Bool := match a, b with
  | .ofNat a, .ofNat b => Nat.beq a b
  | .negSucc a, .negSucc b => Nat.beq a b
  | _, _ => false
def sameA (a b : Addr) : Bool := match a.spot, b.spot with
  | none, none => match Nat.beq a.block b.block with
    | true => Nat.beq a.off b.off
    | false => false
  | _, _ => false
def sameL (f : Value → Value → Bool) : List Value → List Value → Bool
  | [], [] => true
  | a :: l, b :: m => match f a b with
    | true => sameL f l m
    | false => false
  | _, _ => false
/-- The two values are one. -/
def sameV : Nat → Value → Value → Bool
  | 0, _, _ => false
  | n + 1, a, b => match a, b with
    | .bool a, .bool b => match a, b with
      | true, true | false, false => true
      | _, _ => false
    | .int k a, .int k' b => match decide (k = k') with
      | true => sameI a b
      | false => false
    | .float k a, .float k' b => match decide (k = k') with
      | true => Nat.beq a b
      | false => false
    | .string a, .string b => sameB a.data.toList b.data.toList
    | .pointer none, .pointer none => true
    | .pointer (some a), .pointer (some b) => sameA a b
    | .map none, .map none => true
    | .map (some a), .map (some b) => Nat.beq a b
    | .slice none l c, .slice none l' c' => match Nat.beq l l' with
      | true => Nat.beq c c'
      | false => false
    | .slice (some a) l c, .slice (some b) l' c' => match Nat.beq l l', Nat.beq c c' with
      | true, true => sameA a b
      | _, _ => false
    | .agg a, .agg b => sameL (sameV n) a.toList b.toList
    | .tuple a, .tuple b => sameL (sameV n) a.toList b.toList
    | .nilFunc, .nilFunc => true
    | .nilIface, .nilIface => true
    | _, _ => false

/-- What is done next in a region whose order is drawn. -/
inductive PA where
  | val (k : Kind) (d : DOp)
  | new (d : DOp)
  | eff (d : DOp)
  | re (d : DOp)

noncomputable def valK (P : Program) (k : Kind) (o : AOp) (t : T Value) (h : AH) : Option Value := match k with
  | .pure => aPure P o t
  | .read => aRead P o t h
  | _ => none
noncomputable def valD (P : Program) (k : Kind) (d : DOp) (t : T Value) (h : AH) : Option Value := match d with
  | .mk g _ o => match wantedA g t with
    | true => valK P k o t h
    | false => some undef
def dstD : DOp → Option Pos
  | .mk _ d _ => d
noncomputable def valP (P : Program) (k : Kind) (d : DOp) (next : K β) (t : T Value) (h : AH) : Option β := match valD P k d t h with
  | some v => putA (dstD d) v next t h
  | none => none
noncomputable def newQ (d : Option Pos) (next : K β) (t : T Value) (h : AH) (o : AObj) (v : Option Value) : Option β := match v, Nat.blt h.next roof with
  | some v, true => putA d v next t (h.push o)
  | _, _ => none
noncomputable def newP (P : Program) (d : DOp) (next : K β) (t : T Value) (h : AH) : Option β := match d with
  | .mk none d o => match aNew P o t with
    | some (ob, f) => newQ d next t h ob (f h.next)
    | none => none
  | _ => none
noncomputable def reP (P : Program) (d : DOp) (next : K β) (t : T Value) (h : AH) : Option β := match dstD d, valD P .read d t h with
  | some p, some v => match sameV 6 v (getP t p) with
    | true => next t h
    | false => none
  | _, _ => none
/-- Block numbers are never taken back. -/
def grow (n : Nat) (next : K β) : K β := fun t h => match Nat.ble n h.next with
  | true => next t h
  | false => none
noncomputable def effP (P : Program) (call : Caller β) (next : K β) (d : DOp) (t : T Value) (h : AH) : Option β := runOp P call (grow h.next next) d t h
noncomputable def actP (P : Program) (call : Caller β) (next : K β) : PA → K β :=
  @PA.rec (fun _ => K β) (fun k d => valP P k d next) (fun d => newP P d next) (fun d => effP P call next d) (fun d => reP P d next)
noncomputable def runPlan (P : Program) (call : Caller β) (next : K β) (l : List PA) : K β :=
  @List.rec PA (fun _ => K β) next (fun o _ ih => actP P call ih o) l

/-! The plan: by the operations' numbers. -/
inductive Act1 where
  | val (i : Nat) | new (i : Nat) | eff (i : Nat) | re (i : Nat)

def isEff : Kind → Bool
  | .eff => true
  | _ => false
def bitIn (m i : Nat) : Bool := Nat.beq (Nat.mod (Nat.shiftRight m i) 2) 1
def subset (a b : Nat) : Bool := Nat.beq (Nat.lor a b) b
def bitOr (m i : Nat) : Nat := Nat.lor m (Nat.shiftLeft 1 i)

structure Row where
  i : Nat
  kind : Kind
  bef : Nat

def mkAct (k : Kind) (i : Nat) : Act1 := match k with
  | .new => .new i
  | .eff => .eff i
  | _ => .val i
def isRead : Kind → Bool
  | .read => true
  | _ => false

def isNew : Kind → Bool
  | .new => true
  | _ => false

structure Scan where
  acc : List Act1
  dn : Nat
  new : Bool

/-- All operations without effect that can be done, in text order. -/
def scan : List Row → Scan → Scan
  | [], s => s
  | r :: l, s => match isEff r.kind, bitIn s.dn r.i, subset r.bef s.dn with
    | false, false, true => scan l ⟨mkAct r.kind r.i :: s.acc, bitOr s.dn r.i, isNew r.kind || s.new⟩
    | _, _, _ => scan l s
/-- The reads to be looked at again. -/
def again (rs : List Row) (dn must : Nat) : List Act1 := (rs.filter fun r => isRead r.kind && bitIn dn r.i && !bitIn must r.i).map fun r => .re r.i
def scanned (rs : List Row) (dn must : Nat) (acc : List Act1) : List Act1 × Nat :=
  let p := scan rs ⟨acc, dn, false⟩
  ((again rs (match p.new with | true => p.dn | false => dn) must).reverse ++ p.acc, p.dn)
/-- Two last operations with effect, neither behind the other. -/
def twoEnd (e : Row) : List Row → Option Nat
  | [e'] => match bitIn e'.bef e.i with
    | true => none
    | false => some e'.i
  | _ => none
def planGo (rs : List Row) : List Row → Nat → Nat → List Act1 → List Act1 × Option (Nat × Nat)
  | [], dn, must, acc => ((scanned rs dn must acc).1, none)
  | e :: es, dn, must, acc =>
    let p := scanned rs dn must acc
    match twoEnd e es with
    | some j => (p.1, some (e.i, j))
    | none => planGo rs es (bitOr p.2 e.i) (bitOr (Nat.lor must e.bef) e.i) (.eff e.i :: p.1)
def rowsOf (ops : Array Oper) : List Row :=
  let b := Region.before ops
  ops.toList.zipIdx.map fun (o, i) => ⟨i, kindOf o, b.getD i 0⟩
def planOf (ops : Array Oper) : List Act1 × Option (Nat × Nat) :=
  let rs := rowsOf ops
  let p := planGo rs (rs.filter fun r => isEff r.kind) 0 0 []
  (p.1.reverse, p.2)

/-! Is it a plan? -/
def edgesIn (o : Oper) : List Nat := (o.after.toList.filter (Region.binds .any ·)).map (·.on)

def AOp.opds : AOp → List Opd
  | .bad => []
  | .mv x => [x]
  | .pk c a b => [c, a, b]
  | .fa _ x => [x]
  | .ixs _ x i => [x, i]
  | .ixa _ _ x i => [x, i]
  | .nc x => [x]
  | .ex _ x => [x]
  | .mf _ a b => a ++ b
  | .ld x => [x]
  | .st _ x y => [x, y]
  | .tree _ xs => xs
  | .unit _ xs => xs
  | .ptree _ xs => xs
  | .look _ _ x k => [x, k]
  | .upd _ m k x => [m, k, x]
  | .plain _ xs => xs
  | .sl _ _ x lo hi mx => x :: (lo.toList ++ (hi.toList ++ mx.toList))
  | .sla _ _ x lo hi mx => x :: (lo.toList ++ (hi.toList ++ mx.toList))
  | .bin _ _ _ _ x y => [x, y]
  | .nilI _ x => [x]
  | .len _ x => [x]
  | .app _ _ s x => [s, x]
  | .str _ x y => [x, y]
  | .sld x => [x]
  | .b2s x => [x]
  | .cpy _ _ x y => [x, y]
  | .noZero _ x => [x]
  | .call _ xs => xs
  | .callv g xs => g :: xs
def posL : List Opd → List Pos
  | [] => []
  | .at p :: l => p :: posL l
  | .val _ :: l => posL l
def DOp.reads : DOp → List Pos
  | .mk g _ o => match g with
    | some (some p, _) => p :: posL o.opds
    | _ => posL o.opds

structure Info where
  i : Nat
  kind : Kind
  bef : Nat
  after : List Nat
  dst : Option Pos
  reads : List Pos

def infoOf (C : Cfg) (P : Program) (sz : Nat) (ops : Array Oper) : List Info :=
  let b := Region.before ops
  ops.toList.zipIdx.map fun (o, i) => ⟨i, kindOf o, b.getD i 0, edgesIn o, dstD (decOp C P sz ops o), (decOp C P sz ops o).reads⟩

def sameP : Pos → Pos → Bool
  | .z, .z => true
  | .a p, .a q => sameP p q
  | .b p, .b q => sameP p q
  | _, _ => false
def wires (x y : Info) : Bool := match y.dst with
  | none => true
  | some p => match Nat.beq x.i y.i with
    | true => true
    | false => match (match x.dst with | some q => sameP p q | none => false), x.reads.any (sameP p) with
      | true, _ => false
      | false, false => true
      | false, true => match bitIn x.bef y.i with
        | true => true
        | false => bitIn y.bef x.i
def befU (l : List Info) (js : List Nat) : Nat := js.foldl (fun m j => Nat.lor (bitOr m j) (match l[j]? with | some y => y.bef | none => 0)) 0
def befOk (l : List Info) (x : Info) : Bool := match x.after.all (bitIn x.bef) with
  | true => subset x.bef (befU l x.after)
  | false => false
def reOk (l : List Info) (dn : Nat) (x : Info) : Bool := l.all fun y => match y.dst with
  | none => true
  | some p => match x.reads.any (sameP p) with
    | true => bitIn x.bef y.i || !bitIn dn y.i
    | false => true
def staticOk (l : List Info) : Bool := l.all (befOk l) && l.all fun x => l.all (wires x)

structure PSt where
  dn : Nat
  must : Nat
  ok : Nat
  es : Nat
  st : Nat

def chkAll (l : List Info) (s : PSt) : Bool := match subset s.dn (Nat.lor s.ok s.must) with
  | true => true
  | false => false
def aft (s : PSt) (x : Info) (e : Nat) : PSt := ⟨bitOr s.dn e, bitOr (Nat.lor s.must x.bef) e, s.st, bitOr s.es e, s.st⟩
def chk (E : PSt → Bool) (l : List Info) : List Act1 → PSt → Bool
  | [], s => E s
  | .val i :: π, s => match l[i]?, bitIn s.dn i with
    | some x, false => match x.kind, subset x.bef s.dn with
      | .pure, true => chk E l π ⟨bitOr s.dn i, s.must, bitOr s.ok i, s.es, bitOr s.st i⟩
      | .read, true => chk E l π ⟨bitOr s.dn i, s.must, bitOr s.ok i, s.es, s.st⟩
      | _, _ => false
    | _, _ => false
  | .new i :: π, s => match l[i]?, bitIn s.dn i with
    | some x, false => match x.kind, subset x.bef s.dn with
      | .new, true => chk E l π ⟨bitOr s.dn i, s.must, bitOr s.st i, s.es, bitOr s.st i⟩
      | _, _ => false
    | _, _ => false
  | .re i :: π, s => match l[i]?, bitIn s.dn i with
    | some x, true => match x.kind, reOk l s.dn x with
      | .read, true => chk E l π ⟨s.dn, s.must, bitOr s.ok i, s.es, s.st⟩
      | _, _ => false
    | _, _ => false
  | .eff e :: π, s => match l[e]?, bitIn s.dn e, chkAll l s with
    | some x, false, true => match x.kind, subset x.bef s.dn, l.all (fun y => bitIn s.dn y.i || (Nat.beq y.i e || bitIn y.bef e)) with
      | .eff, true, true => chk E l π (aft s x e)
      | _, _, _ => false
    | _, _, _ => false
def endAll (l : List Info) (s : PSt) : Bool := match chkAll l s with
  | true => l.all fun x => bitIn s.dn x.i
  | false => false
def endTwo (l : List Info) (i j : Nat) (s : PSt) : Bool := match l[i]?, l[j]?, bitIn s.dn i, bitIn s.dn j, chkAll l s with
  | some x, some y, false, false, true => match x.kind, y.kind, subset x.bef s.dn, subset y.bef s.dn, l.all (fun z => bitIn s.dn z.i || (Nat.beq z.i i || Nat.beq z.i j)) with
    | .eff, .eff, true, true, true => match chk (endAll l) l [.eff j] (aft s x i) with
      | true => chk (endAll l) l [.eff i] (aft s y j)
      | false => false
    | _, _, _, _, _ => false
  | _, _, _, _, _ => false
def endOf (l : List Info) : Option (Nat × Nat) → PSt → Bool
  | none => endAll l
  | some (i, j) => endTwo l i j
def chk0 (l : List Info) (π : List Act1 × Option (Nat × Nat)) : Bool := match staticOk l with
  | true => chk (endOf l π.2) l π.1 ⟨0, 0, 0, 0, 0⟩
  | false => false

def paOf (C : Cfg) (P : Program) (sz : Nat) (ops : Array Oper) : Act1 → PA
  | .val i => match ops[i]? with
    | some o => .val (kindOf o) (decOp C P sz ops o)
    | none => .re (.mk none none .bad)
  | .new i => match ops[i]? with
    | some o => .new (decOp C P sz ops o)
    | none => .re (.mk none none .bad)
  | .eff i => match ops[i]? with
    | some o => .eff (decOp C P sz ops o)
    | none => .re (.mk none none .bad)
  | .re i => match ops[i]? with
    | some o => .re (decOp C P sz ops o)
    | none => .re (.mk none none .bad)

def planned (C : Cfg) (P : Program) (sz : Nat) (ops : Array Oper) : List PA := (planOf ops).1.map (paOf C P sz ops)
def planGood (C : Cfg) (P : Program) (sz : Nat) (ops : Array Oper) : Bool := chk0 (infoOf C P sz ops) (planOf ops)

structure St where
  n : Nat
  x : Opd
  y : Opd
def stOf : DOp → Option St
  | .mk none none (.st n x y) => some ⟨n, x, y⟩
  | _ => none
def apartV (x x' : Value) : Bool := match x, x' with
  | .pointer (some a), .pointer (some b) => match Nat.beq a.block b.block with
    | true => false
    | false => true
  | _, _ => false
/-- Two stores into two blocks. -/
noncomputable def twoP (d d' : DOp) (next : K β) (t : T Value) (h : AH) : Option β := match stOf d, stOf d' with
  | some s, some s' => match apartV (evO t s.x) (evO t s'.x) with
    | true => match dSt s.n s.x s.y t h with
      | some (.value _ h₁) => match dSt s'.n s'.x s'.y t h₁ with
        | some (.value _ h₂) => next t h₂
        | _ => none
      | _ => none
    | false => none
  | _, _ => none
noncomputable def endP (C : Cfg) (P : Program) (sz : Nat) (ops : Array Oper) (kn : K β) : Option (Nat × Nat) → K β
  | none => kn
  | some (i, j) => match ops[i]?, ops[j]? with
    | some o, some o' => twoP (decOp C P sz ops o) (decOp C P sz ops o') kn
    | _, _ => fun _ _ => none

noncomputable def drawnA (C : Cfg) (P : Program) (run : Runner β) (sz : Nat) (ops : Array Oper) (kn : K β) : K β :=
  match planGood C P sz ops with
  | true => runPlan P (callA C P run) (endP C P sz ops kn (planOf ops).2) (planned C P sz ops)
  | false => fun _ _ => none
noncomputable def regionA (C : Cfg) (P : Program) (run : Runner β) (sz : Nat) (ops : Array Oper) (kn : K β) : K β :=
  runOps P (callA C P run) kn (ops.toList.map (decOp C P sz ops))

noncomputable def stepA (C : Cfg) (P : Program) (n : Nat) (run : Runner β) (sz : Nat) (c : Code) : K β → KX β → K β :=
  match c with
  | .skip => fun kn _ => kn
  | .label _ => fun kn _ => kn
  | .region _ ops draw => match draw with
    | false => fun kn _ => regionA C P run sz ops kn
    | true => fun kn _ => drawnA C P run sz ops kn
  | .seq x y => fun kn kx => run sz x (run sz y kn kx) kx
  | .cond o x y => match opdOk P o with
    | true => fun kn kx => condK (opd o) (run sz x kn kx) (run sz y kn kx)
    | false => fun _ _ _ _ => none
  | .block id b => fun kn kx => run sz b kn (blockX id kn kx)
  | .loop b => fun _ kx => loopA (fun next => run sz b next kx) n
  | .exit id => fun _ kx => kx (.exit id)
  | .goto l => fun _ kx => kx (.goto l)
  | .ret => fun _ kx => kx .ret
  | .scope b => fun kn kx => scopeA (run sz) b kn kx n b
  | _ => fun _ _ _ _ => none

/-- Code, and calls, by fuel. -/
noncomputable def run (C : Cfg) (P : Program) (n : Nat) : Runner β :=
  @Nat.rec (fun _ => Runner β) (fun _ _ _ _ _ _ => none) (fun n ih => stepA C P n ih) n

noncomputable def runCall (C : Cfg) (P : Program) (n : Nat) (f : FuncId) (args : Array Value) (h : AH) (k : KV β) : Option β :=
  callA C P (run C P n) f args h k
end Go.Ri
