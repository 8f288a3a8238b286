/- The abstract machine: values, heap, and what each operation does there (no tape, no capacities, no addresses of the world). -/

import Derived.Orders
import Derived.LoopN
import Derived.Below
namespace Go.Am
open Go

/-- 'bind', 'if' under names of their own: where a value is not known yet (the tool that prints stops at them). -/
--@prim
abbrev obind {α β : Type} (x : Option α) (f : α → Option β) : Option β := x.bind f
--@prim
def bcond {α : Type} (b : Bool) (x y : α) : α := match b with
  | true => x
  | false => y

/-- An object of the abstract heap. 'cells': a variable; 'arr': an array behind slices, with the size of its elements and its generation; 'map'. 'ro': it may only be read. -/
inductive AObj where
  | cells (ro : Bool) (c : List Value)
  | arr (ro : Bool) (esz gen : Nat) (c : List Value)
  | map (ro : Bool) (es : List (Value × Value))
  deriving Inhabited

abbrev Mem := Nat → Option AObj

/-- The abstract heap: 'vis': which objects may be looked at; 'floor': below it nothing may be written. -/
structure St where
  m : Mem
  next : Nat
  vis : Nat → Bool
  floor : Nat

def St.get (h : St) (id : Nat) : Option AObj := if h.vis id then h.m id else none
def upd (m : Mem) (id : Nat) (o : AObj) : Mem := fun i => if i = id then some o else m i
def St.put (h : St) (id : Nat) (o : AObj) : St := { h with m := upd h.m id o }
--@prim
def St.new (h : St) (o : AObj) : St := { h with m := upd h.m h.next o, next := h.next + 1 }

/-- Values without addresses. -/
def flatN : Nat → Value → Bool
  | 0, _ => false
  | n + 1, v => match v with
    | .bool _ | .int _ _ | .float _ _ | .complex _ _ _ | .string _ => true
    | .pointer none | .map none | .chan none | .nilFunc | .nilIface => true
    | .slice none l c => l == 0 && c == 0
    | .iface _ v => flatN n v
    | .agg cs => cs.toList.all (flatN n)
    | .tuple cs => cs.toList.all (flatN n)
    | .func (.func _) a b => a.toList.all (flatN n) && b.toList.all (flatN n)
    | _ => false
abbrev flat (v : Value) : Bool := flatN 4 v

/-- A value of one cell. -/
def one1 : Value → Bool
  | .agg _ | .tuple _ => false
  | _ => true

/-! types -/
section
variable (P : Program)
def tsize (t : TypeId) : Option Nat := (P.info? t).map (·.size)
def tbytes (t : TypeId) : Option Nat := (P.info? t).map (·.bytes)
def tagg (t : TypeId) : Option Bool := (P.underlying t).map fun | .struct _ | .array _ _ => true | _ => false
def tzero (t : TypeId) : Option Value := match P.info? t with
  | some i => match i.zero with
    | some v => if flat v then some v else none
    | none => none
  | none => none
def telem (t : TypeId) : Option TypeId := match P.underlying t with
  | some (.slice e) => some e
  | _ => none
def tfield (t : TypeId) (f : Nat) : Option Field := match P.underlying t with
  | some (.struct fs) => fs[f]?
  | _ => none
end

/-! rows -/
/-- The cells that lie at an address. -/
def St.row (h : St) (a : Addr) : Option (List Value) :=
  match h.get a.block with
  | some (.cells _ c) => if a.spot = none then some c else none
  | some (.arr _ _ g c) => if a.spot = some g then some c else none
  | _ => none
def St.setRow (h : St) (a : Addr) (c : List Value) : Option St :=
  if h.floor ≤ a.block then
    match h.get a.block with
    | some (.cells false _) => if a.spot = none then some (h.put a.block (.cells false c)) else none
    | some (.arr false e g _) => if a.spot = some g then some (h.put a.block (.arr false e g c)) else none
    | _ => none
  else none
def splice (c : List Value) (off : Nat) (vs : List Value) : List Value := c.take off ++ vs ++ c.drop (off + vs.length)
def aadd (a : Addr) (n : Nat) : Addr := { a with off := a.off + n }

/-- A load of one cell; of n cells as one value. -/
--@prim
def ld1 (h : St) : Value → Option Value
  | .pointer (some a) => (h.row a).bind fun c => c[a.off]?
  | _ => none
--@prim
def ldN (h : St) (n : Nat) : Value → Option Value
  | .pointer (some a) => (h.row a).bind fun c => if a.off + n ≤ c.length then some (.agg ((c.drop a.off).take n).toArray) else none
  | _ => none
--@prim
def stN (h : St) (n : Nat) (v : Value) : Value → Option St
  | .pointer (some a) => (h.row a).bind fun c =>
    if v.cells.size = n ∧ a.off + n ≤ c.length ∧ v.cells.toList.all one1 = true then h.setRow a (splice c a.off v.cells.toList) else none
  | _ => none
def aload (P : Program) (h : St) (t : TypeId) (a : Value) : Option Value :=
  (tagg P t).bind fun g => if g then (tsize P t).bind fun n => ldN h n a else ld1 h a
def astore (P : Program) (h : St) (t : TypeId) (a v : Value) : Option St := (tsize P t).bind fun n => stN h n v a

def aalloc (P : Program) (h : St) (t : TypeId) : Option (Value × St) :=
  (tzero P t).bind fun z => some (.pointer (some ⟨h.next, 0, none⟩), h.new (.cells false z.cells.toList))
def abox (h : St) (v : Value) : Value × St := (.pointer (some ⟨h.next, 0, none⟩), h.new (.cells false v.cells.toList))

def apart (P : Program) (t : TypeId) (cs : Array Value) (off : Nat) : Option Value :=
  (tagg P t).bind fun g => if g then (tsize P t).bind fun n => some (.agg (cs.extract off (off + n))) else cs[off]?

def abuild (P : Program) (t : TypeId) (parts : List (Nat × Value)) : Option Value :=
  (tzero P t).bind fun z => match P.underlying t with
    | some (.struct fields) =>
      (fields.toList.mapM fun f => (tsize P f.type).map fun n => (f.offset, n)).bind fun places =>
        (Instr.fill (fun i => places[i]?) z.cells parts).bind fun cs => some (.agg cs)
    | some (.array _ elem) =>
      (tsize P elem).bind fun n => (Instr.fill (fun i => some (i * n, n)) z.cells parts).bind fun cs => some (.agg cs)
    | _ => none

/-- n times the cells of a zero. -/
def zeros (z : Value) (n : Nat) : List Value := (List.replicate n z.cells.toList).flatten

def abuildSlice (P : Program) (h : St) (t : TypeId) (len : Nat) (parts : List (Nat × Value)) : Option (Value × St) :=
  (telem P t).bind fun e => (tsize P e).bind fun n => (tzero P e).bind fun z =>
    if n ≠ 0 ∧ z.cells.size = n ∧ len * n ≤ 2 ^ 24 then
      (Instr.fill (fun i => some (i * n, n)) (zeros z len).toArray parts).bind fun cs =>
        some (.slice (some ⟨h.next, 0, none⟩) len 0, h.new (.arr false n 0 cs.toList))
    else none

--@prim
def smake (h : St) (n b : Nat) (z : Value) (l c : Int) : Option (Value × St) :=
  if 0 ≤ l ∧ l ≤ c ∧ c ≤ 2 ^ 47 ∧ b * c ≤ 2 ^ 47 then some (.slice (some ⟨h.next, 0, none⟩) l.toNat 0, h.new (.arr false n 0 (zeros z l.toNat))) else none
def amakeSlice (P : Program) (h : St) (t : TypeId) (l c : Value) : Option (Value × St) :=
  (telem P t).bind fun e => (tsize P e).bind fun n => (tzero P e).bind fun z => (tbytes P e).bind fun b =>
    if n ≠ 0 ∧ z.cells.size = n then
      match l, c with
      | .int _ l, .int _ c => smake h n b z l c
      | _, _ => none
    else none

/-- The cells that a slice's first n elements have. -/
def sliceRow (h : St) (size n : Nat) : Value → Option (List Value)
  | .slice none _ _ => if n = 0 then some [] else none
  | .slice (some a) len g =>
    if n ≤ len then
      if n = 0 then some [] else
      match h.get a.block with
      | some (.arr _ e g' c) => if g' = g ∧ e = size ∧ a.off + n * size ≤ c.length ∧ a.spot = none then some ((c.drop a.off).take (n * size)) else none
      | _ => none
    else none
  | _ => none
def slen : Value → Option Nat
  | .slice _ n _ => some n
  | .string s => some s.size
  | _ => none
def rowOf (h : St) (size n : Nat) : Value → Option (List Value)
  | .string s => if size = 1 then some ((s.extract 0 n).data.toList.map fun b => .int .u8 b.toNat) else none
  | v => sliceRow h size n v

def u8s : List Value → Option (List Int)
  | [] => some []
  | .int .u8 n :: r => (u8s r).bind fun l => some (n :: l)
  | _ => none
def pushN (ns : List Int) : ByteArray := ns.foldl (fun r n => r.push (UInt8.ofNat n.toNat)) ByteArray.empty
/-- The string of a slice of bytes. -/
--@prim
def sbytes (h : St) : Value → Option ByteArray
  | .slice a len g => (sliceRow h 1 len (.slice a len g)).bind fun cs => (u8s cs).bind fun ns => some (pushN ns)
  | _ => none
/-- Is a conversion one of a slice of bytes to a string? -/
def isBytes (P : Program) (s d : TypeId) : Bool := match P.underlying s, P.underlying d with
  | some (.slice e), some .string => (match P.underlying e with
    | some (.int .u8) => true
    | _ => false)
  | _, _ => false

/-- append, by the size and the bytes of an element. -/
--@prim
def sapp (h : St) (n b : Nat) (s x : Value) : Option (Value × St) :=
  (slen x).bind fun k => (rowOf h n k x).bind fun new =>
    match s with
    | .slice none 0 0 =>
      if k = 0 then some (s, h) else
      if k ≤ 2 ^ 47 ∧ k * b ≤ 2 ^ 47 then some (.slice (some ⟨h.next, 0, none⟩) k 0, h.new (.arr false n 0 new)) else none
    | .slice (some a) len g =>
      if k = 0 then some (s, h) else
      if new.all one1 = true ∧ len + k ≤ 2 ^ 47 ∧ (len + k) * b ≤ 2 ^ 47 ∧ h.floor ≤ a.block ∧ a.spot = none then
        match h.get a.block with
        | some (.arr false e' g' c) =>
          if g' = g ∧ e' = n ∧ a.off + len * n ≤ c.length then
            some (.slice (some ⟨a.block, 0, none⟩) (len + k) (g + 1), h.put a.block (.arr false n (g + 1) ((c.drop a.off).take (len * n) ++ new)))
          else none
        | _ => none
      else none
    | _ => none
def aappend (P : Program) (h : St) (t : TypeId) (s x : Value) : Option (Value × St) :=
  (telem P t).bind fun e => (tsize P e).bind fun n => (tbytes P e).bind fun b => (tzero P e).bind fun z =>
    if n ≠ 0 ∧ z.cells.size = n then sapp h n b s x else none

--@prim
def scopy (h : St) (n : Nat) (d x : Value) : Option (Value × St) :=
  (slen x).bind fun k =>
    match d with
    | .slice (some a) len g =>
      if min k len = 0 then some (goInt 0, h) else
      if a.spot = none ∧ n ≠ 0 then
        match h.get a.block with
        | some (.arr _ e' g' c) =>
          (rowOf h n (min k len) x).bind fun src =>
          if e' = n ∧ g' = g ∧ a.off + len * n ≤ c.length ∧ src.all one1 = true then
            (h.setRow { a with spot := some g } (splice c a.off src)).bind fun h' => some (goInt (min k len : Nat), h')
          else none
        | _ => none
      else none
    | .slice none 0 0 => some (goInt 0, h)
    | _ => none
def acopy (P : Program) (h : St) (t : TypeId) (d x : Value) : Option (Value × St) :=
  (telem P t).bind fun e => (tsize P e).bind fun n => scopy h n d x

--@prim
def sclear (h : St) (n : Nat) (z d : Value) : Option St :=
    match d with
    | .slice none 0 0 => some h
    | .slice (some a) len g =>
      if len = 0 then some h else
      if a.spot = none ∧ z.cells.size = n ∧ z.cells.toList.all one1 = true ∧ n ≠ 0 then
        match h.get a.block with
        | some (.arr _ e' g' c) =>
          if e' = n ∧ g' = g ∧ a.off + len * n ≤ c.length then h.setRow { a with spot := some g } (splice c a.off (zeros z len)) else none
        | _ => none
      else none
    | _ => none
def aclear (P : Program) (h : St) (t : TypeId) (d : Value) : Option St :=
  (telem P t).bind fun e => (tsize P e).bind fun n => (tzero P e).bind fun z => sclear h n z d

--@prim
def vlen : Value → Option Int
  | .slice _ n _ => some (n : Nat)
  | _ => none
--@prim
def maplen (h : St) : Value → Option Int
  | .map none => some 0
  | .map (some r) => match h.get r with
    | some (.map _ es) => some (es.length : Nat)
    | _ => none
  | _ => none
def alen (P : Program) (h : St) (t : TypeId) (v : Value) : Option Value :=
  match P.underlying t with
  | some .string => match v with
    | .string s => some (.int .i64 (s.size : Nat))
    | _ => none
  | some (.array n _) => some (.int .i64 (n : Nat))
  | some (.slice _) => obind (vlen v) fun n => some (.int .i64 n)
  | some (.map _ _) => obind (maplen h v) fun n => some (.int .i64 n)
  | _ => none

def abound (d : Int) : Option Value → Option Int
  | none => some d
  | some (.int _ i) => some i
  | _ => none
--@prim
def strcut (x : Value) (lo hi : Option Value) : Option Value := match x with
  | .string s => (abound s.size hi).bind fun i => (abound 0 lo).bind fun j =>
    if 0 ≤ j ∧ j ≤ i ∧ i ≤ s.size then some (.string (s.extract j.toNat i.toNat)) else none
  | _ => none
--@prim
def scut (h : St) (n : Nat) (x : Value) (lo hi : Option Value) : Option Value := match x with
  | .slice none 0 0 => (abound 0 hi).bind fun i => (abound 0 lo).bind fun j => if j = 0 ∧ i = 0 then some (.slice none 0 0) else none
  | .slice (some a) len g => (abound len hi).bind fun i => (abound 0 lo).bind fun j =>
    match h.get a.block with
    | some (.arr _ e' _ _) =>
      if e' = n ∧ a.spot = none ∧ 0 ≤ j ∧ j ≤ i ∧ i ≤ len then some (.slice (some (aadd a (j.toNat * n))) (i.toNat - j.toNat) g) else none
    | _ => none
  | _ => none
def aslice (P : Program) (h : St) (t : TypeId) (x : Value) (lo hi : Option Value) : Option Value :=
  match P.underlying t with
  | some .string => strcut x lo hi
  | some (.slice e) => (tsize P e).bind fun n => scut h n x lo hi
  | _ => none

def afieldAddr (P : Program) (t : TypeId) (x : Value) (f : Nat) : Option Value :=
  (tfield P t f).bind fun fd => (tsize P fd.type).bind fun n =>
    match x with
    | .pointer (some a) => if n ≠ 0 then some (.pointer (some (aadd a fd.offset))) else none
    | _ => none
def afield (P : Program) (t : TypeId) (x : Value) (f : Nat) : Option Value :=
  (tfield P t f).bind fun fd => match x with
    | .agg cs => apart P fd.type cs fd.offset
    | _ => none
--@prim
def sidx (n : Nat) (x : Value) (j : Int) : Option Value := match x with
  | .slice (some a) len g => if 0 ≤ j ∧ j < len ∧ a.spot = none then some (.pointer (some { block := a.block, off := a.off + j.toNat * n, spot := some g })) else none
  | _ => none
--@prim
def aidx (n len : Nat) (x : Value) (j : Int) : Option Value := match x with
  | .pointer (some a) => if 0 ≤ j ∧ j < len then some (.pointer (some (aadd a (j.toNat * n)))) else none
  | _ => none
def aindexAddr (P : Program) (t : TypeId) (x i : Value) : Option Value :=
  match P.underlying t with
  | some (.slice e) => (tsize P e).bind fun n => match i with
    | .int _ j => sidx n x j
    | _ => none
  | some (.array len e) => (tsize P e).bind fun n => match i with
    | .int _ j => aidx n len x j
    | _ => none
  | _ => none
--@prim
def strAt (s : ByteArray) (j : Int) : Option Int := if 0 ≤ j ∧ j < s.size then (s[j.toNat]?).map fun b => (b.toNat : Int) else none
def aindex (P : Program) (t : TypeId) (x i : Value) : Option Value :=
  match P.underlying t, x, i with
  | some (.array len e), .agg cs, .int _ j =>
    (tsize P e).bind fun n => if 0 ≤ j ∧ j < len then apart P e cs (j.toNat * n) else none
  | some .string, .string s, .int _ j => obind (strAt s j) fun b => some (.int .u8 b)
  | _, _, _ => none

/-! maps with flat keys of whole numbers, strings, bools -/
def findAt (d : TypeDesc) (k : Value) : List (Value × Value) → Nat → Option (Option (Nat × Value))
  | [], _ => some none
  | e :: es, i => match Instr.sameNow d k e.1 with
    | some true => some (some (i, e.2))
    | some false => findAt d k es (i + 1)
    | none => none
def plainKey : TypeDesc → Bool
  | .bool | .int _ | .string => true
  | _ => false
def mapOf (h : St) : Value → Option (List (Value × Value))
  | .map none => some []
  | .map (some r) => match h.get r with
    | some (.map _ es) => some es
    | _ => none
  | _ => none
/-- What a map holds for a key. -/
def mlook (h : St) (d : TypeDesc) (x k : Value) : Option (Option (Nat × Value)) :=
  if flat k = true then (mapOf h x).bind fun es => findAt d k es 0 else none
--@prim
def mlookD (h : St) (d : TypeDesc) (z x k : Value) : Option (Value × Bool) := (mlook h d x k).bind fun r => match r with
  | some (_, v) => some (v, true)
  | none => some (z, false)
def alookup (P : Program) (h : St) (t : TypeId) (x k : Value) (ok : Bool) : Option Value :=
  match P.underlying t with
  | some (.map key elem) => (P.underlying key).bind fun d => (tzero P elem).bind fun z =>
    if plainKey d = true then
      obind (mlookD h d z x k) fun r => some (if ok then .tuple #[r.1, .bool r.2] else r.1)
    else none
  | _ => none
--@prim
def mput (h : St) (d : TypeDesc) (x k v : Value) : Option St := match x with
  | .map (some r) =>
    if flat k = true ∧ h.floor ≤ r then
      match h.get r with
      | some (.map false es) => (findAt d k es 0).bind fun q =>
        match q with
        | some (i, _) => some (h.put r (.map false (es.set i (k, v))))
        | none => some (h.put r (.map false (es ++ [(k, v)])))
      | _ => none
    else none
  | _ => none
def amapUpdate (P : Program) (h : St) (t : TypeId) (x k v : Value) : Option St :=
  match P.underlying t with
  | some (.map key _) => (P.underlying key).bind fun d => if plainKey d = true then mput h d x k v else none
  | _ => none

/-! operators -/
--@prim
def wadd (k : IntKind) (a b : Int) : Int := k.wrap (a + b)
--@prim
def wsub (k : IntKind) (a b : Int) : Int := k.wrap (a - b)
--@prim
def wmul (k : IntKind) (a b : Int) : Int := k.wrap (a * b)
--@prim
def wquo (k : IntKind) (a b : Int) : Option Int := if b = 0 then none else some (k.wrap (a.tdiv b))
--@prim
def wrem (a b : Int) : Option Int := if b = 0 then none else some (a.tmod b)
--@prim
def wand (k : IntKind) (a b : Int) : Int := k.wrap (BitVec.ofInt k.bits a &&& BitVec.ofInt k.bits b).toNat
--@prim
def wor (k : IntKind) (a b : Int) : Int := k.wrap (BitVec.ofInt k.bits a ||| BitVec.ofInt k.bits b).toNat
--@prim
def wxor (k : IntKind) (a b : Int) : Int := k.wrap (BitVec.ofInt k.bits a ^^^ BitVec.ofInt k.bits b).toNat
--@prim
def wandNot (k : IntKind) (a b : Int) : Int := k.wrap (BitVec.ofInt k.bits a &&& ~~~(BitVec.ofInt k.bits b)).toNat
--@prim
def wshl (k : IntKind) (a b : Int) : Option Int := if b < 0 then none else some (k.wrap (a * 2 ^ (min b.toNat k.bits)))
--@prim
def wshr (k : IntKind) (a b : Int) : Option Int := if b < 0 then none else some (a.fdiv (2 ^ (min b.toNat k.bits)))
--@prim
def wconv (k : IntKind) (a : Int) : Int := k.wrap a
--@prim
def ieq (a b : Int) : Bool := a == b
--@prim
def ilt (a b : Int) : Bool := decide (a < b)
--@prim
def ile (a b : Int) : Bool := decide (a ≤ b)
--@prim
def imax (a b : Int) : Int := if b > a then b else a
--@prim
def imin (a b : Int) : Int := if b < a then b else a
--@prim
def seq (a b : ByteArray) : Bool := a.toList == b.toList
--@prim
def scat (a b : ByteArray) : Option ByteArray := if a.size + b.size ≤ 2 ^ 62 then some (a ++ b) else none
--@prim
def slenI (s : ByteArray) : Int := s.size
--@prim
def beqb (a b : Bool) : Bool := a == b
--@prim
def band (a b : Bool) : Bool := a && b
--@prim
def bnot (a : Bool) : Bool := !a
def aint (op : BinOp) (k : IntKind) (a b : Int) : Option Value :=
  match op with
  | .add => some (.int k (wadd k a b))
  | .sub => some (.int k (wsub k a b))
  | .mul => some (.int k (wmul k a b))
  | .quo => obind (wquo k a b) fun c => some (.int k c)
  | .rem => obind (wrem a b) fun c => some (.int k c)
  | .and => some (.int k (wand k a b))
  | .or => some (.int k (wor k a b))
  | .xor => some (.int k (wxor k a b))
  | .andNot => some (.int k (wandNot k a b))
  | .eql => some (.bool (ieq a b))
  | .neq => some (.bool (bnot (ieq a b)))
  | .lss => some (.bool (ilt a b))
  | .leq => some (.bool (ile a b))
  | .gtr => some (.bool (ilt b a))
  | .geq => some (.bool (ile b a))
  | _ => none
def ashift (op : BinOp) (k : IntKind) (a b : Int) : Option Value :=
  match op with
  | .shl => obind (wshl k a b) fun c => some (.int k c)
  | .shr => obind (wshr k a b) fun c => some (.int k c)
  | _ => none
def astr (op : BinOp) (a b : ByteArray) : Option Value :=
  match op with
  | .add => obind (scat a b) fun c => some (.string c)
  | .eql => some (.bool (seq a b))
  | .neq => some (.bool (bnot (seq a b)))
  | _ => none
def aeqFields (P : Program) (eq : TypeId → Value → Value → Option Bool) (xs ys : Array Value) : List Field → Option Bool
  | [] => some true
  | f :: fs => if f.name = "_" then aeqFields P eq xs ys fs else
    (apart P f.type xs f.offset).bind fun u => (apart P f.type ys f.offset).bind fun v => obind (eq f.type u v) fun q =>
      obind (aeqFields P eq xs ys fs) fun r => some (band q r)
/-- '==' of pointers (n: what they point to is of some size) -/
--@prim
def peq (h : St) : Value → Value → Option Bool
  | .pointer none, .pointer b => some b.isNone
  | .pointer (some _), .pointer none => some false
  | .pointer (some a), .pointer (some b) =>
    match h.get a.block, h.get b.block with
    | some (.cells false _), some (.cells false _) =>
      if a.spot = none ∧ b.spot = none then some (a.block == b.block && a.off == b.off) else none
    | _, _ => none
  | _, _ => none
--@prim
def inileq : Value → Value → Option Bool
  | .nilIface, .iface _ _ | .iface _ _, .nilIface => some false
  | .nilIface, .nilIface => some true
  | _, _ => none
--@prim
def snileq : Value → Value → Option Bool
  | .slice none 0 0, .slice b _ _ => some b.isNone
  | .slice (some _) _ _, .slice none 0 0 => some false
  | _, _ => none
--@prim
def mnileq : Value → Value → Option Bool
  | .map none, .map b => some b.isNone
  | .map (some _), .map none => some false
  | _, _ => none
--@prim
def fnileq : Value → Value → Option Bool
  | .nilFunc, .nilFunc => some true
  | .nilFunc, .func _ _ _ | .func _ _ _, .nilFunc => some false
  | _, _ => none
/-- '==' of two values of a type. -/
def aeq (P : Program) (h : St) : Nat → TypeId → Value → Value → Option Bool
  | 0, _, _, _ => none
  | d + 1, t, x, y =>
    match P.underlying t with
    | some .bool => match x, y with
      | .bool a, .bool b => some (beqb a b)
      | _, _ => none
    | some (.int _) => match x, y with
      | .int k a, .int k' b => if k = k' then some (ieq a b) else none
      | _, _ => none
    | some .string => match x, y with
      | .string a, .string b => some (seq a b)
      | _, _ => none
    | some (.pointer e) => (tsize P e).bind fun n => if n ≠ 0 then peq h x y else none
    | some (.struct fields) => match x, y with
      | .agg xs, .agg ys => if P.stoodInHeld t then none else aeqFields P (aeq P h d) xs ys fields.toList
      | _, _ => none
    | some (.interface _) => inileq x y
    | some (.slice _) => snileq x y
    | some (.map _ _) => mnileq x y
    | some (.func _ _ _) => fnileq x y
    | _ => none
def aguard (P : Program) (t : TypeId) (x y : Operand) : Value → Value → Bool
  | .nilIface, .nilIface => (match x with | .const _ => true | _ => false) || (match y with | .const _ => true | _ => false)
  | .agg _, .agg _ => !P.eqGuardType P.depth t
  | _, _ => true
def plainOp : Value → Bool
  | .int _ _ | .float _ _ | .complex _ _ _ | .string _ => false
  | _ => true
/-- '==' of what are no numbers and no strings. -/
def aeql (P : Program) (h : St) (t : TypeId) (x y : Operand) (a b : Value) : Option Bool :=
  match P.underlying t with
  | some (.int _) | some (.float _) | some (.complex _) | some .string | none => none
  | _ => if aguard P t x y a b = true then aeq P h 10 t a b else none
def abin (P : Program) (h : St) (op : BinOp) (t : TypeId) (x y : Operand) (a b : Value) : Option Value :=
  match op, a, b with
  | .shl, .int k a, .int _ b | .shr, .int k a, .int _ b => ashift op k a b
  | _, .int k a, .int k' b => if k = k' then aint op k a b else none
  | _, .string a, .string b => astr op a b
  | .eql, a, b => obind (aeql P h t x y a b) fun r => some (.bool r)
  | .neq, a, b => obind (aeql P h t x y a b) fun r => some (.bool (bnot r))
  | _, _, _ => none
def aun (op : UnOp) (x : Value) : Option Value :=
  match op, x with
  | .neg, .int k n => some (.int k (wsub k 0 n))
  | .xor, .int k n => some (.int k (wxor k (if k.signed then -1 else k.max) n))
  | .not, .bool b => some (.bool (bnot b))
  | _, _ => none
def aconvert (P : Program) (src dst : TypeId) (x : Value) : Option Value :=
  match P.underlying src, P.underlying dst, x with
  | some (.int _), some (.int k), .int _ n => some (.int k (wconv k n))
  | some .string, some .string, .string s => some (.string s)
  | _, _, _ => none
def aminmax (mx : Bool) : List Value → Option Value
  | .int k a :: .int k' b :: [] => if k = k' then some (.int k (if mx then imax a b else imin a b)) else none
  | _ => none

end Go.Am
