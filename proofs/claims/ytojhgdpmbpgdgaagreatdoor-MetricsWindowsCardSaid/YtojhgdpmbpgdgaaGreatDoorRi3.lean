/-
  Ri, part G: operations read once, then done on the abstract memory.
-/
import Derived.Test.YtojhgdpmbpgdgaaGreatDoorRi2
namespace Go.Ri

/-- What a function that is not gone into answers. -/
inductive Odd where
  | noZero
  | known (e : Array Value → Sem Value)

/-- What a call yields that is told, not gone into. -/
abbrev Told := List Value → AH → Option (Value × AH)

/-- What is told of numbers that are not known. -/
abbrev Sym := BinOp → Int → Int → Option Value

structure Cfg where
  odd : FuncId → Option Odd
  own : FuncId → Option Told := fun _ => none
  sym : Sym := fun _ _ _ => none

def sizeP (P : Program) (t : TypeId) : Option Nat := (P.info? t).map (·.size)
def isAggP (P : Program) (t : TypeId) : Option Bool :=
  match P.underlying t with
  | some (.struct _) | some (.array _ _) => some true
  | some _ => some false
  | none => none

/-- Where a field lies: its offset, if it takes room. -/
def fieldOff (P : Program) (s : TypeId) (f : Nat) : Option Nat :=
  match P.underlying s with
  | some (.struct fields) => match (fields[f]? : Option Field) with
    | some fd => match sizeP P fd.type with
      | some (_ + 1) => some fd.offset
      | _ => none
    | none => none
  | _ => none

inductive Idx where
  | sl (e sz : Nat)
  | ar (e sz len : Nat)

def idxInfo (P : Program) (t : TypeId) : Option Idx :=
  match P.underlying t with
  | some (.slice e) => match sizeP P e with
    | some sz => some (.sl e sz)
    | none => none
  | some (.array len e) => match sizeP P e with
    | some sz => some (.ar e sz len)
    | none => none
  | _ => none

noncomputable def cellsFrom (h : AH) (a : Addr) (n : Nat) : Option (List Value) :=
  match n with
  | 0 => some []
  | _ + 1 => match h.get a.block, a.spot with
    | some (.cells c _ _ _ _), none => match Nat.ble (a.off + n) c.length with
      | true => some ((c.drop a.off).take n)
      | false => none
    | _, _ => none

def bytesOf (s : ByteArray) : List Value := s.data.toList.map fun b => .int .u8 b.toNat

noncomputable def rowOf (h : AH) (sz : Nat) : Value → Option (Nat × List Value)
  | .slice none n _ => match n with
    | 0 => some (0, [])
    | _ + 1 => none
  | .slice (some a) n _ => match cellsFrom h a (n * sz) with
    | some l => some (n, l)
    | none => none
  | .string s => match sz with
    | 1 => some (s.size, bytesOf s)
    | _ => none
  | _ => none

def eqNat (a b : Nat) : Bool := Nat.beq a b

/-- One operation: its value, or the call that it makes. -/
inductive Did where
  | value (v : Value) (h : AH)
  | enter (f : FuncId) (args : Array Value) (h : AH)

abbrev OD := Option Did

/-- 'append' in place. -/
noncomputable def appIn (elem sz : Nat) (a : Addr) (sLen sCap n : Nat) (new : List Value) (h : AH) : OD :=
  match h.get a.block, a.spot, (match Nat.blt a.block roof with | true => new.all oneCell | false => false) with
  | some (.cells c e lo hi w), none, true =>
    match eqNat lo hi, eqNat e elem, Nat.ble (a.off + (sLen + n) * sz) c.length with
    | true, true, true => some (.value (.slice (some a) (sLen + n) sCap) (h.put a.block (some (.cells (c.take (a.off + sLen * sz) ++ (new ++ c.drop (a.off + (sLen + n) * sz))) e lo hi w))))
    | true, true, false => match w, eqNat (a.off + sLen * sz) c.length with
      | true, true => some (.value (.slice (some a) (sLen + n) sCap) (h.put a.block (some (.cells (c ++ new) e lo hi w))))
      | _, _ => none
    | _, _, _ => none
  | _, _, _ => none

/-- 'append' into a new block; where it may have been in place: the elder block is struck. -/
noncomputable def appNew (elem sz : Nat) (base : Option Addr) (sLen n : Nat) (l : List Value) (h : AH) : OD :=
  match Nat.blt (sLen + n) (2 ^ 30), h.next.blt roof with
  | true, true =>
    match base with
    | none => some (.value (.slice (some ⟨h.next, 0, none⟩) (sLen + n) (sLen + n)) (h.push (.cells l elem 0 0 true)))
    | some a => match h.get a.block with
      | some (.cells c e lo hi w) => match w with
        | false => some (.value (.slice (some ⟨h.next, 0, none⟩) (sLen + n) (sLen + n)) (h.push (.cells l elem 0 0 true)))
        | true => match a.off, (match eqNat lo 0 with | true => eqNat hi 0 | false => false), eqNat e elem, eqNat (sLen * sz) c.length, a.spot, Nat.blt a.block roof, l.all oneCell with
          | 0, true, true, true, none, true, true => some (.value (.slice (some ⟨h.next, 0, none⟩) (sLen + n) (sLen + n)) ((h.put a.block none).push (.cells l elem 0 0 true)))
          | _, _, _, _, _, _, _ => none
      | _ => none
  | _, _ => none

/-- 'append': in place, or a new block. -/
noncomputable def aAppend (elem sz : Nat) (s x : Value) (h : AH) : OD :=
  match s with
  | .slice base sLen sCap =>
    match rowOf h sz x, rowOf h sz s with
    | some (n, new), some (_, old) =>
      match Nat.ble (sLen + n) sCap with
      | true => match n, base with
        | 0, _ => some (.value s h)
        | _ + 1, none => none
        | _ + 1, some a => appIn elem sz a sLen sCap n new h
      | false => appNew elem sz base sLen n (old ++ new) h
    | _, _ => none
  | _ => none

/-- Bytes without a value of their own: a block of which nothing is known yet. -/
noncomputable def aNoZero (elem : Nat) (x : Value) (h : AH) : OD :=
  match x with
  | .int .i64 (.ofNat n) => match Nat.blt n (2 ^ 30), h.next.blt roof with
    | true, true => some (.value (.slice (some ⟨h.next, 0, none⟩) n n) (h.push (.cells [] elem 0 0 true)))
    | _, _ => none
  | _ => none

def byteList : List Value → Option (List UInt8)
  | [] => some []
  | .int .u8 (.ofNat b) :: l => match byteList l, Nat.blt b 256 with
    | some r, true => some (UInt8.ofNat b :: r)
    | _, _ => none
  | _ => none

/-- The string over a block's first bytes. -/
noncomputable def aUnsafeString (u : TypeId) (x y : Value) (h : AH) : OD :=
  match x, y with
  | .pointer (some ⟨b, 0, none⟩), .int .i64 (.ofNat (n + 1)) =>
    match h.get b with
    | some (.cells c e lo hi w) =>
      match eqNat e u, Nat.ble (n + 1) c.length, byteList (c.take (n + 1)), Nat.blt n (2 ^ 40), Nat.blt b roof with
      | true, true, some l, true, true => some (.value (.string ⟨l.toArray⟩) (h.put b (some (.cells c e (meet lo hi 0 (n + 1)).1 (meet lo hi 0 (n + 1)).2 w))))
      | _, _, _, _, _ => none
    | _ => none
  | _, _ => none

/-- 'string(b)'. -/
noncomputable def aBytes (x : Value) (h : AH) : OD :=
  match x with
  | .slice none _ _ => some (.value (.string ByteArray.empty) h)
  | .slice (some a) n _ => match cellsFrom h a n with
    | some l => match byteList l with
      | some bs => some (.value (.string ⟨bs.toArray⟩) h)
      | none => none
    | none => none
  | _ => none

def small : Nat := 2 ^ 62
def natIn (x : Value) (top : Nat) : Option Nat :=
  match x with
  | .int _ (.ofNat n) => match Nat.ble n top, Nat.blt n small with
    | true, true => some n
    | _, _ => none
  | _ => none
def natOr (x : Option Value) (top dflt : Nat) : Option Nat :=
  match x with
  | none => some dflt
  | some v => natIn v top

/-- 's[lo:hi:max]' of a slice of a block: may the block be cut so? -/
noncomputable def cutOk (e0 l m : Nat) (a : Addr) (h : AH) : Bool :=
  match h.get a.block with
  | some (.cells _ e _ _ w) => match w with
    | false => true
    | true => match eqNat e e0, l with
      | true, 0 => true
      | true, _ + 1 => match eqNat m l with
        | true => false
        | false => true
      | false, _ => false
  | _ => false
def cutAt (a : Addr) (sz l m : Nat) : Addr := match eqNat m l with
  | true => a
  | false => a.add (l * sz)
/-- 's[lo:hi:max]' of a slice. -/
noncomputable def aSlice (e0 sz : Nat) (x : Value) (lo hi mx : Option Value) (h : AH) : Option Value :=
  match x with
  | .slice base len cap =>
    match natOr mx cap cap with
    | none => none
    | some m => match natOr hi m len with
      | none => none
      | some hh => match natOr lo hh 0, Nat.ble hh m with
        | some l, true => match base with
          | none => some (.slice none (hh - l) (m - l))
          | some a => match cutOk e0 l m a h with
            | true => some (.slice (some (cutAt a sz l m)) (hh - l) (m - l))
            | false => none
        | _, _ => none
  | _ => none

/-- '==' with one side nil: of which kinds it is told. -/
def eqNil (d : Option TypeDesc) (x y : Value) : Option Bool :=
  match d, x, y with
  | some (.pointer _), .pointer none, .pointer b => some b.isNone
  | some (.pointer _), .pointer (some _), .pointer none => some false
  | some (.slice _), .slice none _ _, .slice b _ _ => some b.isNone
  | some (.slice _), .slice (some _) _ _, .slice none _ _ => some false
  | some (.map _ _), .map none, .map b => some b.isNone
  | some (.map _ _), .map (some _), .map none => some false
  | _, _, _ => none

/-! ### Places and operands -/
/-- Values without addresses. -/
def closedB : Nat → Value → Bool
  | 0, _ => false
  | n + 1, v => match v with
    | .bool _ | .float .. | .complex .. | .string _ | .nilFunc | .nilIface => true
    | .int _ k => decide (k < big)
    | .pointer none | .map none | .chan none => true
    | .slice none _ _ => true
    | .agg cs => cs.toList.all (closedB n)
    | .tuple cs => cs.toList.all (closedB n)
    | .iface _ x => closedB n x
    | .func (.func _) a b => match a.toList, b.toList with
      | [], [] => true
      | _, _ => false
    | _ => false


def opdOk (P : Program) : Operand → Bool
  | .tmp t => Nat.blt t roof
  | .const v => closedB 4 v
  | .global g => Nat.blt g P.globals.size
  | .func _ => true


/-- A place's road in the tree. -/
inductive Pos where
  | z
  | a (p : Pos)
  | b (p : Pos)
  deriving DecidableEq

/-- The road to number n (f: how long it may be). -/
def posOf : Nat → Nat → Pos
  | 0, _ => .z
  | _ + 1, 0 => .z
  | f + 1, n + 1 => match n % 2 with
    | 0 => .a (posOf f (n / 2))
    | _ => .b (posOf f (n / 2))

/-- What an operand is: a place, or a value. -/
inductive Opd where
  | at (p : Pos)
  | val (v : Value)

def opd : Operand → Opd
  | .tmp t => .at (posOf 40 t)
  | .const v => .val v
  | .global g => .val (.pointer (some ⟨g, 0, none⟩))
  | .func f => .val (.func (.func f) #[] #[])

noncomputable def getP (t : T Value) : Pos → Value :=
  @T.rec Value (fun _ => Pos → Value) (fun _ => undef)
    (fun _ v _ ihl ihr p => @Pos.rec (fun _ => Value) (@Option.rec Value (fun _ => Value) undef (fun v => v) v) (fun p _ => ihl p) (fun p _ => ihr p) p) t

noncomputable def evO (t : T Value) (x : Opd) : Value := @Opd.rec (fun _ => Value) (fun p => getP t p) (fun v => v) x

noncomputable def setZ (x : Value) (t : T Value) : T Value := @T.rec Value (fun _ => T Value) (.node .leaf (some x) .leaf) (fun l _ r _ _ => .node l (some x) r) t
noncomputable def setA (f : T Value → T Value) (t : T Value) : T Value := @T.rec Value (fun _ => T Value) (.node (f .leaf) none .leaf) (fun l v r _ _ => .node (f l) v r) t
noncomputable def setB (f : T Value → T Value) (t : T Value) : T Value := @T.rec Value (fun _ => T Value) (.node .leaf none (f .leaf)) (fun l v r _ _ => .node l v (f r)) t
noncomputable def setP (x : Value) (p : Pos) : T Value → T Value := @Pos.rec (fun _ => T Value → T Value) (setZ x) (fun _ ih => setA ih) (fun _ ih => setB ih) p

/-! ### Operations, read -/
inductive AOp where
  | bad
  | mv (x : Opd)
  | pk (c a b : Opd)
  | fa (off : Nat) (x : Opd)
  | ixs (sz : Nat) (x i : Opd)
  | ixa (sz len : Nat) (x i : Opd)
  | nc (x : Opd)
  | ex (i : Nat) (x : Opd)
  | mf (f : FuncId) (first captured : List Opd)
  | ld (x : Opd)
  | st (n : Nat) (x y : Opd)
  | tree (f : List Value → Sem Value) (xs : List Opd)
  | unit (f : List Value → Sem Unit) (xs : List Opd)
  | ptree (f : List Value → Sem Value) (xs : List Opd)
  | look (t : TypeId) (ok : Bool) (x k : Opd)
  | upd (t : TypeId) (m k x : Opd)
  | plain (f : List Value → Sem Value) (xs : List Opd)
  | sl (e sz : Nat) (x : Opd) (lo hi mx : Option Opd)
  | sla (sz len : Nat) (x : Opd) (lo hi mx : Option Opd)
  | bin (sm : Sym) (op : BinOp) (t : TypeId) (d : Option TypeDesc) (x y : Opd)
  | nilI (neq : Bool) (x : Opd)
  | len (str : Bool) (x : Opd)
  | app (elem sz : Nat) (s x : Opd)
  | str (u : TypeId) (x y : Opd)
  | sld (x : Opd)
  | b2s (x : Opd)
  | cpy (ts : Array TypeId) (ty : TypeId) (x y : Opd)
  | noZero (elem : Nat) (x : Opd)
  | call (f : FuncId) (xs : List Opd)
  | callv (g : Opd) (xs : List Opd)

def semPair (f : Value → Value → Sem Value) : List Value → Sem Value
  | [x, y] => f x y
  | _ => stuck ""
def semOne (f : Value → Sem Value) : List Value → Sem Value
  | [x] => f x
  | _ => stuck ""
def semZip (is : List Nat) (f : Array (Nat × Value) → Sem Value) (l : List Value) : Sem Value := f (is.zip l).toArray
def uTwo (f : Value → Value → Sem Unit) : List Value → Sem Unit
  | [x, y] => f x y
  | _ => stuck ""
def uThree (f : Value → Value → Value → Sem Unit) : List Value → Sem Unit
  | [x, y, z] => f x y z
  | _ => stuck ""

def hasBody (P : Program) (f : FuncId) : Bool := match P.funcs[f]? with
  | some fn => match fn.body with
    | some _ => true
    | none => false
  | none => false

/-- The element of the slice type that a function's first result has. -/
def resElem (P : Program) (f : FuncId) : Option Nat := match P.funcs[f]? with
  | some fn => match ((fn.resultTypes[0]?).bind P.underlying : Option TypeDesc) with
    | some (.slice e) => match sizeP P e with
      | some 1 => some e
      | _ => none
    | _ => none
  | none => none

/-- The places of a struct's fields can be told. -/
def placesOk (P : Program) (t : TypeId) : Bool := match P.underlying t with
  | some (.struct fields) => match psem P (fields.mapM fun f => do pure (f.offset, ← sizeOf f.type) : Sem (Array (Nat × Nat))) with
    | some _ => true
    | none => false
  | _ => true

def decCall (C : Cfg) (P : Program) (type : TypeId) (c : Call) : AOp :=
  match c.callee with
  | .builtin .len => match (c.args[0]? : Option Operand), ((c.argTypes[0]?).bind P.underlying : Option TypeDesc) with
    | some x, some .string => match c.args.toList with
      | [_] => .len true (opd x)
      | _ => .bad
    | some x, some (.slice _) => match c.args.toList with
      | [_] => .len false (opd x)
      | _ => .bad
    | _, _ => .bad
  | .builtin .append => match c.args.toList, ((c.argTypes[0]?).bind P.underlying : Option TypeDesc), ((c.argTypes[1]?).bind P.underlying : Option TypeDesc) with
    | [_, _], some (.slice _), some (.int _) => .bad
    | [s, x], some (.slice e), some _ => match P.info? e with
      | some i => match Nat.blt i.bytes (2 ^ 10), (match i.zero with | some z => Nat.beq z.cells.size i.size | none => false) with
        | true, true => .app e i.size (opd s) (opd x)
        | _, _ => .bad
      | none => .bad
    | _, _, _ => .bad
  | .builtin .unsafeString => match c.args.toList, c.argTypes.toList with
    | [x, y], [pt, _] => match P.underlying pt with
      | some (.pointer u) => match eqNat (P.cellsOf u) 1 with
        | true => .str u (opd x) (opd y)
        | false => .bad
      | _ => .bad
    | _, _ => .bad
  | .builtin .copy => match c.args.toList with
    | [x, y] => .cpy c.argTypes type (opd x) (opd y)
    | _ => .bad
  | .builtin .unsafeSliceData => match c.args.toList with
    | [x] => .sld (opd x)
    | _ => .bad
  | .builtin .min => .plain (fun l => Builtin.min_ c.argTypes type l.toArray) (c.args.toList.map opd)
  | .builtin .max => .plain (fun l => Builtin.max_ c.argTypes type l.toArray) (c.args.toList.map opd)
  | .builtin _ => .bad
  | .value (.func f) => match hasBody P f, C.odd f with
    | true, _ => .call f (c.args.toList.map opd)
    | false, some .noZero => match resElem P f, c.args.toList with
      | some e, [x] => .noZero e (opd x)
      | _, _ => .bad
    | false, some (.known e) => .plain (fun l => e l.toArray) (c.args.toList.map opd)
    | false, none => .bad
  | .value g => .callv (opd g) (c.args.toList.map opd)
  | .invoke _ _ => .bad

def maxOk (hi mx : Option Operand) : Bool := match mx, hi with
  | some _, none => false
  | _, _ => true

/-- '== nil', '!= nil' of an interface value. -/
def nilIface? (P : Program) (op : BinOp) (t : TypeId) (y : Operand) : Option Bool := match op, P.underlying t, y with
  | .eql, some (.interface _), .const .nilIface => some false
  | .neq, some (.interface _), .const .nilIface => some true
  | _, _, _ => none

def decodeOp (C : Cfg) (P : Program) (o : Oper) : AOp :=
  match o.op with
  | .move x | .assign x => .mv (opd x)
  | .pick c a b => .pk (opd c) (opd a) (opd b)
  | .fieldAddr s x f => match fieldOff P s f with
    | some off => .fa off (opd x)
    | none => .bad
  | .indexAddr t x i => match idxInfo P t with
    | some (.sl _ sz) => .ixs sz (opd x) (opd i)
    | some (.ar _ sz len) => .ixa sz len (opd x) (opd i)
    | none => .bad
  | .nilCheck x => .nc (opd x)
  | .extract x i => .ex i (opd x)
  | .makeFunc (.func f) first captured => .mf f (first.toList.map opd) (captured.toList.map opd)
  | .load t x => match isAggP P t with
    | some false => .ld (opd x)
    | _ => .tree (semOne (Instr.loadAt t)) [opd x]
  | .store t a v => match sizeP P t with
    | some n => .st n (opd a) (opd v)
    | none => .bad
  | .alloc t => .tree (fun _ => Instr.alloc t true (.tuple #[])) []
  | .box t x => .tree (semOne (Instr.box t)) [opd x]
  | .build t parts => match placesOk P t with
    | true => .tree (semZip (parts.toList.map (·.1)) (Instr.build t)) (parts.toList.map fun p => opd p.2)
    | false => .bad
  | .buildSlice t n parts => .tree (semZip (parts.toList.map (·.1)) (Instr.buildSlice t n)) (parts.toList.map fun p => opd p.2)
  | .makeMap t none => .tree (fun _ => Instr.makeMap t none) []
  | .makeSlice t l c => .ptree (semPair (Instr.makeSlice t)) [opd l, opd c]
  | .field t x f => .tree (semOne fun v => Instr.field t v f) [opd x]
  | .lookup t x i ok => .look t ok (opd x) (opd i)
  | .mapUpdate t m k x => .upd t (opd m) (opd k) (opd x)
  | .slice t x lo hi mx => match idxInfo P t, maxOk hi mx with
    | some (.sl e sz), true => .sl e sz (opd x) (lo.map opd) (hi.map opd) (mx.map opd)
    | some (.ar _ sz len), true => .sla sz len (opd x) (lo.map opd) (hi.map opd) (mx.map opd)
    | some _, false => .bad
    | none, _ => match mx with
      | none => .plain (fun l => match l, lo, hi with
        | [s, a, b], some _, some _ => Instr.slice t s (some a) (some b) none
        | [s, a], some _, none => Instr.slice t s (some a) none none
        | [s, b], none, some _ => Instr.slice t s none (some b) none
        | [s], none, none => Instr.slice t s none none none
        | _, _, _ => stuck "") (opd x :: (lo.toList.map opd ++ hi.toList.map opd))
      | some _ => .bad
  | .binOp op t x y _ => match nilIface? P op t y with
    | some n => .nilI n (opd x)
    | none => .bin C.sym op t (P.underlying t) (opd x) (opd y)
  | .unOp op _ x => .plain (semOne (Op.unary op)) [opd x]
  | .convert s d x => match P.underlying s, P.underlying d with
    | some (.slice e), some .string => match P.underlying e with
      | some (.int .u8) => .b2s (opd x)
      | _ => .bad
    | some (.slice _), _ => .bad
    | _, _ => .plain (semOne (convert s d)) [opd x]
  | .index t x i => .plain (semPair (Instr.index t)) [opd x, opd i]
  | .call c => decCall C P o.type c
  | _ => .bad

def decode (C : Cfg) (P : Program) (o : Oper) : AOp := match o.op.operands.toList.all (opdOk P) with
  | true => decodeOp C P o
  | false => .bad

/-! ### Operations, done -/
noncomputable def dPk (c a b : Opd) (t : T Value) (h : AH) : OD := match evO t c with
  | .bool true => some (.value (evO t a) h)
  | .bool false => some (.value (evO t b) h)
  | _ => none
noncomputable def dFa (off : Nat) (x : Opd) (t : T Value) (h : AH) : OD := match evO t x with
  | .pointer (some a) => some (.value (.pointer (some (a.add off))) h)
  | _ => none
def dIx (n sz len : Nat) (a : Addr) (h : AH) : OD := match Nat.blt n len, Nat.blt n small with
  | true, true => some (.value (.pointer (some (a.add (n * sz)))) h)
  | _, _ => none
noncomputable def dIxs (sz : Nat) (x i : Opd) (t : T Value) (h : AH) : OD := match evO t x, evO t i with
  | .slice (some a) len _, .int _ (.ofNat n) => dIx n sz len a h
  | _, _ => none
noncomputable def dIxa (sz len : Nat) (x i : Opd) (t : T Value) (h : AH) : OD := match evO t x, evO t i with
  | .pointer (some a), .int _ (.ofNat n) => dIx n sz len a h
  | _, _ => none
noncomputable def dNc (x : Opd) (t : T Value) (h : AH) : OD := match evO t x with
  | .pointer (some a) => some (.value (.pointer (some a)) h)
  | .func (.func f) a b => some (.value (.func (.func f) a b) h)
  | _ => none
noncomputable def dEx (i : Nat) (x : Opd) (t : T Value) (h : AH) : OD := match evO t x with
  | .tuple vs => match (vs.toList)[i]? with
    | some v => some (.value v h)
    | none => none
  | _ => none
noncomputable def evs (t : T Value) (xs : List Opd) : List Value := xs.map (evO t)
noncomputable def dMf (f : FuncId) (a b : List Opd) (t : T Value) (h : AH) : OD := some (.value (.func (.func f) (evs t a).toArray (evs t b).toArray) h)
noncomputable def dLd (x : Opd) (t : T Value) (h : AH) : OD := match evO t x with
  | .pointer (some a) => match h.cell? a with
    | some v => some (.value v h)
    | none => none
  | _ => none
noncomputable def storeL (a : Addr) : List Value → Nat → AH → Option AH
  | [], _, h => some h
  | v :: l, i, h => match oneCell v with
    | true => match h.setCell? (a.add i) v with
      | some h' => storeL a l (i + 1) h'
      | none => none
    | false => none
noncomputable def dStA (n : Nat) (a : Addr) (cs : Array Value) (h : AH) : OD := match Nat.beq cs.size n with
  | true => match storeL a cs.toList 0 h with
    | some h' => some (.value undef h')
    | none => none
  | false => none
noncomputable def dSt (n : Nat) (x y : Opd) (t : T Value) (h : AH) : OD := match evO t x with
  | .pointer (some a) => dStA n a (evO t y).cells h
  | _ => none
noncomputable def dTree (P : Program) (f : List Value → Sem Value) (xs : List Opd) (t : T Value) (h : AH) : OD := match asem P (f (evs t xs)) h with
  | some (v, h') => some (.value v h')
  | none => none
noncomputable def dUnit (P : Program) (f : List Value → Sem Unit) (xs : List Opd) (t : T Value) (h : AH) : OD := match asem P (f (evs t xs)) h with
  | some (_, h') => some (.value undef h')
  | none => none
noncomputable def dLookV (P : Program) (ty : TypeId) (ok : Bool) (x k : Value) (h : AH) : OD := match plainS k with
  | true => match asem P (Instr.lookup ty x k ok) h with
    | some (v, h') => some (.value v h')
    | none => none
  | false => none
noncomputable def dLook (P : Program) (ty : TypeId) (ok : Bool) (x k : Opd) (t : T Value) (h : AH) : OD := dLookV P ty ok (evO t x) (evO t k) h
noncomputable def dUpdV (P : Program) (ty : TypeId) (m k x : Value) (h : AH) : OD := match plainS k with
  | true => match asem P (Instr.mapUpdate ty m k x) h with
    | some (_, h') => some (.value undef h')
    | none => none
  | false => none
noncomputable def dUpd (P : Program) (ty : TypeId) (m k x : Opd) (t : T Value) (h : AH) : OD := dUpdV P ty (evO t m) (evO t k) (evO t x) h
def allPlain (l : List Value) : Bool := l.all plainS
def dPlainV (P : Program) (s : Sem Value) (h : AH) : OD := match psem P s with
  | some v => match plainS v with
    | true => some (.value v h)
    | false => none
  | none => none
def dPlainL (P : Program) (f : List Value → Sem Value) (l : List Value) (h : AH) : OD := match allPlain l with
  | true => dPlainV P (f l) h
  | false => none
noncomputable def dTreeL (P : Program) (f : List Value → Sem Value) (l : List Value) (h : AH) : OD := match allPlain l with
  | true => match asem P (f l) h with
    | some (v, h') => some (.value v h')
    | none => none
  | false => none
noncomputable def dPlain (P : Program) (f : List Value → Sem Value) (xs : List Opd) (t : T Value) (h : AH) : OD := dPlainL P f (evs t xs) h
noncomputable def dSl (e sz : Nat) (x : Opd) (lo hi mx : Option Opd) (t : T Value) (h : AH) : OD := match aSlice e sz (evO t x) (lo.map (evO t)) (hi.map (evO t)) (mx.map (evO t)) h with
  | some v => some (.value v h)
  | none => none
noncomputable def dSlaA (sz len : Nat) (a : Addr) (lo hi mx : Option Value) (h : AH) : OD := match h.get a.block with
  | some (.cells _ _ _ _ false) => match aSlice 0 sz (.slice (some a) len len) lo hi mx h with
    | some v => some (.value v h)
    | none => none
  | _ => none
noncomputable def dSla (sz len : Nat) (x : Opd) (lo hi mx : Option Opd) (t : T Value) (h : AH) : OD := match evO t x with
  | .pointer (some a) => dSlaA sz len a (lo.map (evO t)) (hi.map (evO t)) (mx.map (evO t)) h
  | _ => none
def dNil (op : BinOp) (d : Option TypeDesc) (x y : Value) (h : AH) : OD := match op, eqNil d x y with
  | .eql, some b => some (.value (.bool b) h)
  | .neq, some b => some (.value (.bool (!b)) h)
  | _, _ => none
/-- A struct of plain parts. -/
def flatA : Value → Bool
  | .agg xs => xs.toList.all plainS
  | _ => false
/-- '==' of two structs of plain parts. -/
def dSym (sm : Sym) (op : BinOp) (d : Option TypeDesc) (x y : Value) (h : AH) : OD := match x, y with
  | .int .i64 a, .int .i64 b => match sm op a b with
    | some v => some (.value v h)
    | none => none
  | _, _ => dNil op d x y h
def dAgg (P : Program) (sm : Sym) (op : BinOp) (ty : TypeId) (d : Option TypeDesc) (x y : Value) (h : AH) : OD := match flatA x, flatA y with
  | true, true => match psem P (eqGuard op ty (.tmp 0) (.tmp 0) x y) with
    | some _ => dPlainV P (binOp op ty x y) h
    | none => none
  | _, _ => dSym sm op d x y h
def dBinV (P : Program) (sm : Sym) (op : BinOp) (ty : TypeId) (d : Option TypeDesc) (x y : Value) (h : AH) : OD := match plainS x, plainS y with
  | true, true => dPlainV P (binOp op ty x y) h
  | _, _ => dAgg P sm op ty d x y h
noncomputable def dBin (P : Program) (sm : Sym) (op : BinOp) (ty : TypeId) (d : Option TypeDesc) (x y : Opd) (t : T Value) (h : AH) : OD := dBinV P sm op ty d (evO t x) (evO t y) h
noncomputable def dNilI (neq : Bool) (x : Opd) (t : T Value) (h : AH) : OD := match evO t x with
  | .nilIface => some (.value (.bool (!neq)) h)
  | .iface _ _ => some (.value (.bool neq) h)
  | _ => none
def dLenN (n : Nat) (h : AH) : OD := match Nat.blt n small with
  | true => some (.value (.int .i64 (Int.ofNat n)) h)
  | false => none
noncomputable def dLen (str : Bool) (x : Opd) (t : T Value) (h : AH) : OD := match str, evO t x with
  | true, .string s => dLenN s.size h
  | false, .slice _ n _ => dLenN n h
  | _, _ => none
noncomputable def dApp (elem sz : Nat) (s x : Opd) (t : T Value) (h : AH) : OD := aAppend elem sz (evO t s) (evO t x) h
noncomputable def dStr (u : TypeId) (x y : Opd) (t : T Value) (h : AH) : OD := aUnsafeString u (evO t x) (evO t y) h
noncomputable def dB2s (x : Opd) (t : T Value) (h : AH) : OD := aBytes (evO t x) h
noncomputable def dSld (x : Opd) (t : T Value) (h : AH) : OD := match evO t x with
  | .slice none _ _ => some (.value (.pointer none) h)
  | .slice (some a) _ (_ + 1) => some (.value (.pointer (some a)) h)
  | _ => none
noncomputable def dCpyV (P : Program) (ts : Array TypeId) (ty : TypeId) (x y : Value) (h : AH) : OD := match x with
  | .slice _ n _ => match Nat.blt n (2 ^ 62) with
    | true => match asem P (Builtin.copy_ ts ty #[x, y]) h with
      | some (v, h') => some (.value v h')
      | none => none
    | false => none
  | _ => none
noncomputable def dCpy (P : Program) (ts : Array TypeId) (ty : TypeId) (x y : Opd) (t : T Value) (h : AH) : OD := dCpyV P ts ty (evO t x) (evO t y) h
noncomputable def dNoZero (elem : Nat) (x : Opd) (t : T Value) (h : AH) : OD := aNoZero elem (evO t x) h
noncomputable def dCall (f : FuncId) (xs : List Opd) (t : T Value) (h : AH) : OD := some (.enter f (evs t xs).toArray h)
noncomputable def dCallv (P : Program) (g : Opd) (xs : List Opd) (t : T Value) (h : AH) : OD := match evO t g with
  | .func (.func f) a b => match hasBody P f with
    | true => some (.enter f (a.toList ++ (evs t xs ++ b.toList)).toArray h)
    | false => none
  | _ => none

noncomputable def dyn (P : Program) (o : AOp) : T Value → AH → OD := match o with
  | .bad => fun _ _ => none
  | .mv x => fun t h => some (.value (evO t x) h)
  | .pk c a b => fun t h => dPk c a b t h
  | .fa off x => fun t h => dFa off x t h
  | .ixs sz x i => fun t h => dIxs sz x i t h
  | .ixa sz len x i => fun t h => dIxa sz len x i t h
  | .nc x => fun t h => dNc x t h
  | .ex i x => fun t h => dEx i x t h
  | .mf f a b => fun t h => dMf f a b t h
  | .ld x => fun t h => dLd x t h
  | .st n x y => fun t h => dSt n x y t h
  | .tree f xs => fun t h => dTree P f xs t h
  | .unit f xs => fun t h => dUnit P f xs t h
  | .ptree f xs => fun t h => dTreeL P f (evs t xs) h
  | .look ty ok x k => fun t h => dLook P ty ok x k t h
  | .upd ty m k x => fun t h => dUpd P ty m k x t h
  | .plain f xs => fun t h => dPlain P f xs t h
  | .sl e sz x lo hi mx => fun t h => dSl e sz x lo hi mx t h
  | .sla sz len x lo hi mx => fun t h => dSla sz len x lo hi mx t h
  | .bin sm op ty d x y => fun t h => dBin P sm op ty d x y t h
  | .nilI n x => fun t h => dNilI n x t h
  | .len str x => fun t h => dLen str x t h
  | .app e sz s x => fun t h => dApp e sz s x t h
  | .str u x y => fun t h => dStr u x y t h
  | .b2s x => fun t h => dB2s x t h
  | .sld x => fun t h => dSld x t h
  | .cpy ts ty x y => fun t h => dCpy P ts ty x y t h
  | .noZero e x => fun t h => dNoZero e x t h
  | .call f xs => fun t h => dCall f xs t h
  | .callv g xs => fun t h => dCallv P g xs t h
end Go.Ri
