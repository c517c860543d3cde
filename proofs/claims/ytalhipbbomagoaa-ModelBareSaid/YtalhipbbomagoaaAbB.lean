/- The operations of the code that write nothing, told over a heap of plain values, and that the machine does what they tell. No statement of the set is proved in this text. -/
import Derived.Test.YtalhipbbomagoaaAbA
namespace Go.Proofs.Ytalhipbbomagoaa.Ab
open Go.RowKit
set_option linter.unusedVariables false
set_option linter.unusedSimpArgs false
inductive FOp where
  | mv (x : Operand)
  | bin (op : BinOp) (x y : Operand)
  | eqB (ne : Bool) (x y : Operand)
  | eqI (ne : Bool) (x y : Operand)
  | eqN (tag : Nat) (ne : Bool) (x y : Operand)
  | eqS (ne : Bool) (t : TypeId) (x y : Operand)
  | un (op : UnOp) (x : Operand)
  | cvt (k : IntKind) (x : Operand)
  | str (x : Operand)
  | b2s (x : Operand)
  | s2b (x : Operand)
  | mkI (t : TypeId) (x : Operand)
  | mkF (fn : Fn) (a b : List Operand)
  | ext (x : Operand) (i : Nat)
  | fld (off : Nat) (n : Option Nat) (x : Operand)
  | fad (off : Nat) (x : Operand)
  | iad (size : Nat) (x i : Operand)
  | ixs (x i : Operand)
  | slS (x : Operand) (lo hi : Option Operand)
  | slc (size : Nat) (x : Operand) (lo hi : Option Operand)
  | ld (n : Option Nat) (x : Operand)
  | new (cells : List Value)
  | box (x : Operand)
  | mks (es bytes : Nat) (zero : List Value) (l c : Operand)
  | bsl (es : Nat) (xs : List Operand)
  | len (str : Bool) (x : Operand)
  | mn (x y : Operand)
  | mx (x y : Operand)
  | chk (x : Operand)
  | tas (t : TypeId) (ok : Bool) (zero : Value) (x : Operand)
  | pick (c a b : Operand)
  | bld (zero : List Value) (ps : List (Nat × Nat)) (xs : List Operand)
def FOp.reads : FOp → List Operand
  | .mv x | .un _ x | .cvt _ x | .str x | .b2s x | .s2b x | .mkI _ x | .ext x _ | .fld _ _ x | .fad _ x | .ld _ x | .box x | .len _ x | .chk x | .tas _ _ _ x => [x]
  | .bin _ x y | .eqB _ x y | .eqI _ x y | .eqN _ _ x y | .eqS _ _ x y | .iad _ x y | .ixs x y | .mks _ _ _ x y | .mn x y | .mx x y => [x, y]
  | .mkF _ a b => a ++ b
  | .slS x lo hi | .slc _ x lo hi => x :: (lo.toList ++ hi.toList)
  | .new _ => []
  | .bsl _ xs => xs
  | .pick c a b => [c, a, b]
  | .bld _ _ xs => xs
def semPure : Sem Value → Option Value
  | .pure v => some v
  | _ => none
def abin (op : BinOp) : Value → Value → Option Value
  | .int k a, .int k' b => semPure (binOp op 0 (.int k a) (.int k' b))
  | .string a, .string b => semPure (binOp op 0 (.string a) (.string b))
  | _, _ => none
def nb (ne b : Bool) : Bool := if ne then !b else b
def isC : Operand → Bool
  | .const _ => true
  | _ => false
/-- Values of which two may be held against each other: numbers. -/
def cmpInt (P : Program) (t : TypeId) : Bool :=
  match P.info? t, P.underlying t with
  | some i, some (.int _) => i.comparable
  | _, _ => false
def aeqI (P : Program) (ne c : Bool) : Value → Value → Option Value
  | .nilIface, .nilIface => if c then some (.bool (nb ne true)) else none
  | .nilIface, .iface _ _ => some (.bool (nb ne false))
  | .iface _ _, .nilIface => some (.bool (nb ne false))
  | .iface t v, .iface u x => if t ≠ u then some (.bool (nb ne false)) else
    match v, x with
    | .int k a, .int k' b => if k = k' ∧ cmpInt P t = true then some (.bool (nb ne (a == b))) else none
    | _, _ => none
  | _, _ => none
def aeqN (tag : Nat) (ne : Bool) : Value → Value → Option Value
  | .pointer a, .pointer none => if tag = 0 then some (.bool (nb ne a.isNone)) else none
  | .slice a _ _, .slice none _ _ => if tag = 1 then some (.bool (nb ne a.isNone)) else none
  | .nilFunc, .nilFunc => if tag = 2 then some (.bool (nb ne true)) else none
  | .func _ _ _, .nilFunc => if tag = 2 then some (.bool (nb ne false)) else none
  | _, _ => none
def aun (op : UnOp) : Value → Option Value
  | .int k n => semPure (Op.unary op (.int k n))
  | .bool b => semPure (Op.unary op (.bool b))
  | _ => none
def strOf : List Value → Option (List UInt8)
  | [] => some []
  | .int .u8 n :: l => (strOf l).map (UInt8.ofNat n.toNat :: ·)
  | _ => none
def bytesOf (s : ByteArray) : List Value := s.data.toList.map fun b => .int .u8 b.toNat
def asI : Value → Option Int
  | .int _ n => some n
  | _ => none
/-- The bounds of a cut. -/
def cutB (len : Nat) (lo hi : Option Value) : Option (Nat × Nat) :=
  match (match hi with | none => some (len : Int) | some v => asI v), (match lo with | none => some 0 | some v => asI v) with
  | some h, some l => if 0 ≤ l ∧ l ≤ h ∧ h ≤ len then some (l.toNat, h.toNat) else none
  | _, _ => none
def zerosOf (es : Nat) (zero : List Value) (n : Nat) : List Value := (List.range (n * es)).map fun i => zero.getD (i % zero.length) undef
def flatOf (es : Nat) : List Value → Option (List Value)
  | [] => some []
  | v :: l => if v.cells.size = es ∧ v.cells.toList.all (·.oneCell') = true then (flatOf es l).map (v.cells.toList ++ ·) else none
/-- Parts laid out in cells. -/
def fillL : List Value → List (Nat × Nat) → List Value → Option (List Value)
  | cs, [], [] => some cs
  | cs, (off, size) :: ps, v :: vs => if v.cells.size = size ∧ off + size ≤ cs.length then fillL (putAt cs off v.cells.toList) ps vs else none
  | _, _, _ => none
/-- A slice cut. -/
def cutS (base size : Nat) (a : Option Addr) (n c l g : Nat) : Value :=
  match a with
  | none => .slice none (g - l) (c - l)
  | some a =>
    if a.block < base then .slice (some (if c = l then a else a.add (l * size))) (g - l) (c - l)
    else if l = 0 then .slice (some a) g (if g = n then c else if c = n + 1 then g + 1 else g + 2)
    else if g = l then .slice (some ⟨a.block, 0, some 0⟩) 0 1
    else .slice (some (a.add (l * size))) (g - l) (if c = n ∧ g = n then g - l else g - l + 2)
def FOp.run (P : Program) (ev : Operand → Value) (h : Hp) (id : Nat) : FOp → Option (Value × Option Blk)
  | .mv x => some (ev x, none)
  | .bin op x y => (abin op (ev x) (ev y)).map (·, none)
  | .eqB ne x y => match ev x, ev y with
    | .bool a, .bool b => some (.bool (nb ne (a == b)), none)
    | _, _ => none
  | .eqI ne x y => (aeqI P ne (isC x || isC y) (ev x) (ev y)).map (·, none)
  | .eqN tag ne x y => (aeqN tag ne (ev x) (ev y)).map (·, none)
  | .eqS _ _ _ _ => none
  | .un op x => (aun op (ev x)).map (·, none)
  | .cvt k x => match ev x with
    | .int _ n => some (.int k (k.wrap n), none)
    | _ => none
  | .str x => match ev x with
    | .string s => some (.string s, none)
    | _ => none
  | .b2s x => match ev x with
    | .slice none _ _ => some (.string .empty, none)
    | .slice (some a) n _ => ((h.cells? a n).bind strOf).map fun (l : List UInt8) => (.string ⟨l.toArray⟩, none)
    | _ => none
  | .s2b x => match ev x with
    | .string s => some (.slice (some ⟨id, 0, none⟩) s.size (s.size + 1), some ⟨bytesOf s, 1, true⟩)
    | _ => none
  | .mkI t x => some (.iface t (ev x), none)
  | .mkF fn a b => some (.func fn (a.map ev).toArray (b.map ev).toArray, none)
  | .ext x i => match ev x with
    | .tuple vs => vs[i]?.map (·, none)
    | _ => none
  | .fld off n x => match ev x with
    | .agg cs => (match n with | some m => some (Value.agg (cs.extract off (off + m))) | none => cs[off]?).map (·, none)
    | _ => none
  | .fad off x => match ev x with
    | .pointer (some a) => if a.spot.isSome then none else some (.pointer (some (a.add off)), none)
    | _ => none
  | .iad size x i => match ev x, ev i with
    | .slice (some a) n _, .int _ j => if 0 ≤ j ∧ j < n then some (.pointer (some (a.add (j.toNat * size))), none) else none
    | _, _ => none
  | .ixs x i => match ev x, ev i with
    | .string s, .int _ j => if 0 ≤ j then s[j.toNat]?.map fun b => (.int .u8 b.toNat, none) else none
    | _, _ => none
  | .slS x lo hi => match ev x with
    | .string s => (cutB s.size (lo.map ev) (hi.map ev)).map fun p => (.string (s.extract p.1 p.2), none)
    | _ => none
  | .slc size x lo hi => match ev x with
    | .slice a n c => if n ≤ c then (cutB n (lo.map ev) (hi.map ev)).map fun p => (cutS h.old.heap.size size a n c p.1 p.2, none) else none
    | _ => none
  | .ld n x => match ev x with
    | .pointer (some a) => (match n with | none => h.cell? a | some m => (h.cells? a m).map fun (l : List Value) => Value.agg l.toArray).map (·, none)
    | _ => none
  | .new cells => some (.pointer (some ⟨id, 0, none⟩), some ⟨cells, 0, true⟩)
  | .box x => if (ev x).cells.toList.all (·.oneCell') = true then some (.pointer (some ⟨id, 0, none⟩), some ⟨(ev x).cells.toList, 0, true⟩) else none
  | .mks es bytes zero l c => match ev l, ev c with
    | .int _ n, .int _ m => if n = m ∧ 0 ≤ n ∧ bytes * n ≤ 2 ^ 48 ∧ n < 2 ^ 62 then some (.slice (some ⟨id, 0, none⟩) n.toNat n.toNat, some ⟨zerosOf es zero n.toNat, es, true⟩) else none
    | _, _ => none
  | .bsl es xs => (flatOf es (xs.map ev)).map fun l => (.slice (some ⟨id, 0, none⟩) xs.length xs.length, some ⟨l, es, true⟩)
  | .len st x => match ev x with
    | .string s => if st then some (.int .i64 s.size, none) else none
    | .slice _ n _ => if st then none else some (.int .i64 n, none)
    | _ => none
  | .mn x y => match ev x, ev y with
    | .int k a, .int _ b => some (.int k (if b < a then b else a), none)
    | _, _ => none
  | .mx x y => match ev x, ev y with
    | .int k a, .int _ b => some (.int k (if b > a then b else a), none)
    | _, _ => none
  | .chk x => match ev x with
    | .pointer (some a) => some (.pointer (some a), none)
    | .func (.func f) a b => some (.func (.func f) a b, none)
    | .iface t v => some (.iface t v, none)
    | _ => none
  | .tas t ok zero x => match ev x with
    | .iface u v => if u = t then some (if ok then .tuple #[v, .bool true] else v, none) else if ok then some (.tuple #[zero, .bool false], none) else none
    | .nilIface => if ok then some (.tuple #[zero, .bool false], none) else none
    | _ => none
  | .pick c a b => match ev c with
    | .bool t => some (if t then ev a else ev b, none)
    | _ => none
  | .bld zero ps xs => (fillL zero ps (xs.map ev)).map fun (l : List Value) => (.agg l.toArray, none)
/-- What an operation may tell. (Two structs are held against each other by what the machine's own equation says of them in whatever memory.) -/
def FOp.ok (P : Program) (fo : FOp) (ev : Operand → Value) (h : Hp) (id : Nat) (v : Value) (k : Option Blk) : Prop :=
  fo.run P ev h id = some (v, k) ∨ ∃ ne t x y a b r, fo = .eqS ne t x y ∧ k = none ∧ ev x = .agg a ∧ ev y = .agg b ∧ (a ++ b).all (fun | .int _ _ | .bool _ | .string _ => true | _ => false) = true ∧ (∀ w, (Op.equal t (.agg a) (.agg b)).run P w = .ok r w) ∧ v = .bool (nb ne r)
/-- A value without addresses. -/
def plainC : Value → Bool
  | .bool _ | .int _ _ | .string _ | .pointer none | .slice none _ _ | .map none | .nilFunc | .nilIface | .float _ _ => true
  | _ => false
def plainV : Value → Bool
  | .agg cs => cs.all plainC
  | .tuple cs => cs.all plainC
  | v => plainC v
def okOpd : Operand → Bool
  | .tmp _ | .func _ => true
  | .const v => plainV v
  | .global _ => false
def neq? : BinOp → Option Bool
  | .eql => some false
  | .neq => some true
  | _ => none
def byteT (P : Program) (e : TypeId) : Bool := match P.underlying e with | some (.int .u8) => true | _ => false
def aggT (P : Program) (t : TypeId) : Option Bool := match P.underlying t with | some (.struct _) | some (.array _ _) => some true | some _ => some false | none => none
def compC (P : Program) (c : Call) : Option FOp :=
  match c.callee with
  | .builtin .len =>
    match c.args.toList, c.argTypes[0]? with
    | [x], some t =>
      match P.underlying t with
      | some .string => some (.len true x)
      | some (.slice _) => some (.len false x)
      | _ => none
    | _, _ => none
  | .builtin .min => match c.args.toList with | [x, y] => some (.mn x y) | _ => none
  | .builtin .max => match c.args.toList with | [x, y] => some (.mx x y) | _ => none
  | _ => none
def placesOf (P : Program) (fs : Array Field) : List (Nat × Operand) → Option (List (Nat × Nat))
  | [] => some []
  | (i, _) :: l => match fs[i]?, placesOf P fs l with
    | some f, some ps => (P.info? f.type).map fun inf => (f.offset, inf.size) :: ps
    | _, _ => none
def compF (P : Program) (o : Oper) : Option FOp :=
  match o.op with
  | .move x => some (.mv x)
  | .assign x => some (.mv x)
  | .binOp op t x y _ =>
    match P.underlying t with
    | some (.int _) => some (.bin op x y)
    | some .string => some (.bin op x y)
    | some .bool => (neq? op).map fun n => .eqB n x y
    | some (.interface _) => (neq? op).map fun n => .eqI n x y
    | some (.pointer _) => (neq? op).map fun n => .eqN 0 n x y
    | some (.slice _) => (neq? op).map fun n => .eqN 1 n x y
    | some (.func _ _ _) => (neq? op).map fun n => .eqN 2 n x y
    | some (.struct _) => if P.eqGuardType P.depth t then none else (neq? op).map fun n => .eqS n t x y
    | _ => none
  | .unOp op _ x => some (.un op x)
  | .convert src dst x =>
    match P.underlying src, P.underlying dst with
    | some (.int _), some (.int k) => some (.cvt k x)
    | some .string, some .string => some (.str x)
    | some (.slice e), some .string => if byteT P e then some (.b2s x) else none
    | some .string, some (.slice e) => if byteT P e then some (.s2b x) else none
    | _, _ => none
  | .makeInterface t x =>
    match P.underlying t with
    | some (.interface _) => none
    | some _ => some (.mkI t x)
    | none => none
  | .makeFunc fn a b => some (.mkF fn a.toList b.toList)
  | .extract x i => some (.ext x i)
  | .field t x i =>
    match P.underlying t with
    | some (.struct fs) =>
      match fs[i]? with
      | some f =>
        match aggT P f.type, P.info? f.type with
        | some true, some inf => some (.fld f.offset (some inf.size) x)
        | some false, some _ => some (.fld f.offset none x)
        | _, _ => none
      | none => none
    | _ => none
  | .fieldAddr t x i =>
    match P.underlying t with
    | some (.struct fs) =>
      match fs[i]? with
      | some f =>
        match P.info? f.type with
        | some inf => if inf.size = 0 then none else some (.fad f.offset x)
        | none => none
      | none => none
    | _ => none
  | .indexAddr t x i =>
    match P.underlying t with
    | some (.slice e) => (P.info? e).map fun inf => .iad inf.size x i
    | _ => none
  | .index t x i =>
    match P.underlying t with
    | some .string => some (.ixs x i)
    | _ => none
  | .slice t x lo hi none =>
    match P.underlying t with
    | some .string => some (.slS x lo hi)
    | some (.slice e) => (P.info? e).map fun inf => .slc inf.size x lo hi
    | _ => none
  | .load t x =>
    match aggT P t, P.info? t with
    | some true, some inf => some (.ld (some inf.size) x)
    | some false, some _ => some (.ld none x)
    | _, _ => none
  | .alloc t => (P.info? t).bind fun inf => inf.zero.bind fun z => if z.cells.all plainC then some (.new z.cells.toList) else none
  | .box _ x => some (.box x)
  | .makeSlice t l c =>
    match P.underlying t with
    | some (.slice e) => (P.info? e).bind fun inf => inf.zero.bind fun z => if z.cells.all plainC ∧ z.cells.size ≠ 0 then some (.mks inf.size inf.bytes z.cells.toList l c) else none
    | _ => none
  | .buildSlice t len parts =>
    match P.underlying t with
    | some (.slice e) => (P.info? e).bind fun inf => if parts.toList.map (·.1) = List.range len ∧ len * inf.size ≤ 2 ^ 24 ∧ inf.size ≠ 0 ∧ (inf.zero.map (·.cells.size)) = some inf.size then some (.bsl inf.size (parts.toList.map (·.2))) else none
    | _ => none
  | .nilCheck x => some (.chk x)
  | .pick c a b => some (.pick c a b)
  | .build t parts =>
    match P.underlying t with
    | some (.struct fs) =>
      match P.info? t, placesOf P fs parts.toList with
      | some inf, some ps => inf.zero.bind fun z => if z.cells.all plainC ∧ (fs.all fun f => (P.info? f.type).isSome) = true then some (.bld z.cells.toList ps (parts.toList.map (·.2))) else none
      | _, _ => none
    | _ => none
  | .typeAssert x _ t ok =>
    match P.underlying t with
    | some (.pointer _) => (P.info? t).bind fun inf => inf.zero.bind fun z => if plainV z then some (.tas t ok z x) else none
    | some (.int _) => (P.info? t).bind fun inf => inf.zero.bind fun z => if plainV z then some (.tas t ok z x) else none
    | _ => none
  | .call c => compC P c
  | _ => none
end Go.Proofs.Ytalhipbbomagoaa.Ab
