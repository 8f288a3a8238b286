/- The abstract machine's evaluator over the model's own code. -/
import Derived.Test.YtgpeieohdelniaaGreatDoorAmBase
namespace Go.Am
open Go

--@prim
def vSl : Value → Option (Option Addr × Nat × Nat)
  | .slice a l g => some (a, l, g)
  | _ => none
theorem vSl_eq {v : Value} {x : Option Addr × Nat × Nat} (h : vSl v = some x) : v = .slice x.1 x.2.1 x.2.2 := by
  unfold vSl at h; split at h
  · simp at h; subst h; rfl
  · simp at h
/-! what a value is known to be by its type -/
inductive Sc where
  | int (k : IntKind) | bool | str | ptr | slice | map | any
  deriving DecidableEq, Inhabited
inductive Shape1 where
  | sc (s : Sc)
  | agg (l : List Sc)
  deriving Inhabited
inductive Shape where
  | one (s : Shape1)
  | tup (l : List Shape1)
  deriving Inhabited
--@prim
def vInt (k : IntKind) : Value → Option Int
  | .int k' n => if k' = k then some n else none
  | _ => none
--@prim
def vBool : Value → Option Bool
  | .bool b => some b
  | _ => none
--@prim
def vStr : Value → Option ByteArray
  | .string s => some s
  | _ => none
--@prim
def vPtr : Value → Option (Option Addr)
  | .pointer a => some a
  | _ => none
--@prim
def vMap : Value → Option (Option Nat)
  | .map r => some r
  | _ => none
--@prim
def vOne (v : Value) : Option Value := if one1 v then some v else none
--@prim
def vAgg (n : Nat) : Value → Option (List Value)
  | .agg cs => if cs.size = n then some cs.toList else none
  | _ => none
--@prim
def vTup (n : Nat) : Value → Option (List Value)
  | .tuple cs => if cs.size = n then some cs.toList else none
  | _ => none
section
variable {R : Type}
def decoSc (s : Sc) (v : Value) (f : Value → Option R) : Option R := match s with
  | .int k => obind (vInt k v) fun n => f (.int k n)
  | .bool => obind (vBool v) fun b => f (.bool b)
  | .str => obind (vStr v) fun s => f (.string s)
  | .ptr => obind (vPtr v) fun a => f (.pointer a)
  | .slice => obind (vSl v) fun x => f (.slice x.1 x.2.1 x.2.2)
  | .map => obind (vMap v) fun r => f (.map r)
  | .any => obind (vOne v) f
def decoL (cs : List Value) (f : List Value → Option R) : List Sc → Nat → Option R
  | [], _ => f []
  | s :: ss, i => decoSc s (cs.getD i undef) fun v => decoL cs (fun vs => f (v :: vs)) ss (i + 1)
def deco1 (s : Shape1) (v : Value) (f : Value → Option R) : Option R := match s with
  | .sc s => decoSc s v f
  | .agg l => obind (vAgg l.length v) fun cs => decoL cs (fun vs => f (.agg vs.toArray)) l 0
def decoT (cs : List Value) (f : List Value → Option R) : List Shape1 → Nat → Option R
  | [], _ => f []
  | s :: ss, i => deco1 s (cs.getD i undef) fun v => decoT cs (fun vs => f (v :: vs)) ss (i + 1)
def deco (s : Shape) (v : Value) (f : Value → Option R) : Option R := match s with
  | .one s => deco1 s v f
  | .tup l => obind (vTup l.length v) fun cs => decoT cs (fun vs => f (.tuple vs.toArray)) l 0
end
def tscs (P : Program) : Nat → TypeId → Option (List Sc)
  | 0, _ => none
  | d + 1, t => match P.underlying t with
    | some (.int k) => some [.int k]
    | some .bool => some [.bool]
    | some .string => some [.str]
    | some (.pointer _) | some .unsafePointer => some [.ptr]
    | some (.slice _) => some [.slice]
    | some (.map _ _) => some [.map]
    | some (.struct fs) => fs.toList.foldr (fun f acc => (tscs P d f.type).bind fun a => acc.bind fun r => some (a ++ r)) (some [])
    | some (.array n e) => if n ≤ 8 then (tscs P d e).bind fun l => some (List.replicate n l).flatten else none
    | some _ => some [.any]
    | none => none
def tshape1 (P : Program) (t : TypeId) : Shape1 := match tagg P t, tscs P 6 t with
  | some true, some l => .agg l
  | some false, some [s] => .sc s
  | _, _ => .agg (List.replicate 1000 .any)
def tshape (P : Program) (t : TypeId) : Shape := match P.underlying t with
  | some (.tuple ts) => .tup (ts.toList.map (tshape1 P))
  | _ => .one (tshape1 P t)

/-! operands, slots -/
def aev (t : List Value) : Operand → Value
  | .tmp i => t.getD i undef
  | .const v => v
  | .global g => .pointer (some ⟨g, 0, none⟩)
  | .func f => .func (.func f) #[] #[]
def aput (t : List Value) (dst : Option Nat) (v : Value) : List Value := match dst with
  | some d => t.set d v
  | none => t
def apick (c : Bool) (a b : Value) : Value := match a, b with
  | .bool x, .bool y => .bool (bcond c x y)
  | a, b => match c with
    | true => a
    | false => b
def isStr : Value → Bool
  | .string _ => true
  | _ => false

/-! the same with what follows: no result stands between -/
section
variable {R : Type}
def abinI (op : BinOp) (kk k' : IntKind) (i j : Int) (k : Value → Option R) : Option R :=
  match op with
  | .shl => obind (wshl kk i j) fun c => k (.int kk c)
  | .shr => obind (wshr kk i j) fun c => k (.int kk c)
  | .quo => if kk = k' then obind (wquo kk i j) fun c => k (.int kk c) else none
  | .rem => if kk = k' then obind (wrem i j) fun c => k (.int kk c) else none
  | op => if kk = k' then obind (aint op kk i j) k else none
def abinS (op : BinOp) (i j : ByteArray) (k : Value → Option R) : Option R :=
  match op with
  | .add => obind (scat i j) fun c => k (.string c)
  | op => obind (astr op i j) k
def abinE (P : Program) (h : St) (op : BinOp) (t : TypeId) (x y : Operand) (a b : Value) (k : Value → Option R) : Option R :=
  match op with
  | .eql => obind (aeql P h t x y a b) fun r => k (.bool r)
  | .neq => obind (aeql P h t x y a b) fun r => k (.bool (bnot r))
  | _ => none
def abinK (P : Program) (h : St) (op : BinOp) (t : TypeId) (x y : Operand) (a b : Value) (k : Value → Option R) : Option R :=
  match a, b with
  | .int kk i, .int k' j => abinI op kk k' i j k
  | .string i, .string j => abinS op i j k
  | a, b => abinE P h op t x y a b k
theorem abinK_eq {P : Program} {h : St} {op : BinOp} {t : TypeId} {x y : Operand} {a b : Value} {k : Value → Option R} {r : R} (e : abinK P h op t x y a b k = some r) :
    ∃ v, abin P h op t x y a b = some v ∧ k v = some r := by
  unfold abinK at e
  split at e
  · unfold abinI at e
    cases op
    all_goals simp only at e
    case shl => obtain ⟨c, hc, e⟩ := Option.bind_eq_some_iff.1 e; exact ⟨_, by simp [abin, ashift, obind, hc], e⟩
    case shr => obtain ⟨c, hc, e⟩ := Option.bind_eq_some_iff.1 e; exact ⟨_, by simp [abin, ashift, obind, hc], e⟩
    case quo =>
      split at e
      · rename_i hk; subst hk; obtain ⟨c, hc, e⟩ := Option.bind_eq_some_iff.1 e; exact ⟨_, by simp [abin, aint, obind, hc], e⟩
      · simp at e
    case rem =>
      split at e
      · rename_i hk; subst hk; obtain ⟨c, hc, e⟩ := Option.bind_eq_some_iff.1 e; exact ⟨_, by simp [abin, aint, obind, hc], e⟩
      · simp at e
    all_goals
      split at e
      · rename_i hk; subst hk; obtain ⟨c, hc, e⟩ := Option.bind_eq_some_iff.1 e; exact ⟨c, by simpa [abin] using hc, e⟩
      · simp at e
  · unfold abinS at e
    split at e
    · obtain ⟨c, hc, e⟩ := Option.bind_eq_some_iff.1 e; exact ⟨_, by simp [abin, astr, obind, hc], e⟩
    · obtain ⟨c, hc, e⟩ := Option.bind_eq_some_iff.1 e
      refine ⟨_, ?_, e⟩
      unfold abin
      split <;> simp_all
  · rename_i n1 n2
    unfold abinE at e
    split at e
    · obtain ⟨c, hc, e⟩ := Option.bind_eq_some_iff.1 e
      refine ⟨_, ?_, e⟩
      unfold abin
      split
      case h_3 => exact (n1 _ _ _ _ rfl rfl).elim
      all_goals simp_all [obind]
    · obtain ⟨c, hc, e⟩ := Option.bind_eq_some_iff.1 e
      refine ⟨_, ?_, e⟩
      unfold abin
      split
      case h_3 => exact (n1 _ _ _ _ rfl rfl).elim
      all_goals simp_all [obind]
    · simp at e
def alenK (P : Program) (h : St) (t : TypeId) (v : Value) (k : Value → Option R) : Option R :=
  match P.underlying t with
  | some (.slice _) => obind (vlen v) fun n => k (.int .i64 n)
  | some (.map _ _) => obind (maplen h v) fun n => k (.int .i64 n)
  | _ => obind (alen P h t v) k
theorem alenK_eq {P : Program} {h : St} {t : TypeId} {v : Value} {k : Value → Option R} {r : R} (e : alenK P h t v k = some r) : ∃ u, alen P h t v = some u ∧ k u = some r := by
  unfold alenK at e
  split at e
  · rename_i hu; obtain ⟨c, hc, e⟩ := Option.bind_eq_some_iff.1 e; exact ⟨_, by simp [alen, hu, obind, hc], e⟩
  · rename_i hu; obtain ⟨c, hc, e⟩ := Option.bind_eq_some_iff.1 e; exact ⟨_, by simp [alen, hu, obind, hc], e⟩
  · obtain ⟨c, hc, e⟩ := Option.bind_eq_some_iff.1 e; exact ⟨_, hc, e⟩
def aindexK (P : Program) (t : TypeId) (x i : Value) (k : Value → Option R) : Option R :=
  match P.underlying t with
  | some .string => match x, i with
    | .string s, .int _ j => obind (strAt s j) fun b => k (.int .u8 b)
    | _, _ => none
  | _ => obind (aindex P t x i) k
theorem aindexK_eq {P : Program} {t : TypeId} {x i : Value} {k : Value → Option R} {r : R} (e : aindexK P t x i k = some r) : ∃ u, aindex P t x i = some u ∧ k u = some r := by
  unfold aindexK at e
  split at e
  · rename_i hu
    split at e
    · obtain ⟨c, hc, e⟩ := Option.bind_eq_some_iff.1 e; exact ⟨_, by simp [aindex, hu, obind, hc], e⟩
    · simp at e
  · obtain ⟨c, hc, e⟩ := Option.bind_eq_some_iff.1 e; exact ⟨_, hc, e⟩
def alookupK (P : Program) (h : St) (t : TypeId) (x q : Value) (ok : Bool) (k : Value → Option R) : Option R :=
  match P.underlying t with
  | some (.map key elem) => (P.underlying key).bind fun d => (tzero P elem).bind fun z =>
    if plainKey d = true then
      obind (mlookD h d z x q) fun r => k (if ok then .tuple #[r.1, .bool r.2] else r.1)
    else none
  | _ => none
theorem alookupK_eq {P : Program} {h : St} {t : TypeId} {x q : Value} {ok : Bool} {k : Value → Option R} {r : R} (e : alookupK P h t x q ok k = some r) :
    ∃ u, alookup P h t x q ok = some u ∧ k u = some r := by
  unfold alookupK at e
  split at e
  · rename_i key elem hu
    obtain ⟨d, hd, e⟩ := Option.bind_eq_some_iff.1 e
    obtain ⟨z, hz, e⟩ := Option.bind_eq_some_iff.1 e
    split at e
    · rename_i hp
      obtain ⟨c, hc, e⟩ := Option.bind_eq_some_iff.1 e
      exact ⟨_, by simp [alookup, hu, hd, hz, hp, obind, hc], e⟩
    · simp at e
  · simp at e
--@prim
def strcutS (s : ByteArray) (lo hi : Option Value) : Option ByteArray := match strcut (.string s) lo hi with
  | some (.string r) => some r
  | _ => none
def asliceK (P : Program) (h : St) (t : TypeId) (x : Value) (lo hi : Option Value) (k : Value → Option R) : Option R :=
  match P.underlying t with
  | some .string => match x with
    | .string s => obind (strcutS s lo hi) fun r => k (.string r)
    | _ => none
  | _ => obind (aslice P h t x lo hi) fun v => obind (vSl v) fun x => k (.slice x.1 x.2.1 x.2.2)
theorem asliceK_eq {P : Program} {h : St} {t : TypeId} {x : Value} {lo hi : Option Value} {k : Value → Option R} {r : R} (e : asliceK P h t x lo hi k = some r) :
    ∃ u, aslice P h t x lo hi = some u ∧ k u = some r := by
  unfold asliceK at e
  split at e
  · rename_i hu
    split at e
    · obtain ⟨c, hc, e⟩ := Option.bind_eq_some_iff.1 e
      unfold strcutS at hc
      split at hc
      · rename_i r' hr
        simp only [Option.some.injEq] at hc
        subst hc
        exact ⟨_, by simp [aslice, hu, hr], e⟩
      · simp at hc
    · simp at e
  · obtain ⟨c, hc, e⟩ := Option.bind_eq_some_iff.1 e
    obtain ⟨x, hx, e⟩ := Option.bind_eq_some_iff.1 e
    rw [← vSl_eq hx] at e
    exact ⟨_, hc, e⟩
--@prim
def sidxA (n : Nat) (x : Value) (j : Int) : Option Addr := match sidx n x j with
  | some (.pointer a) => a
  | _ => none
--@prim
def aidxA (n len : Nat) (x : Value) (j : Int) : Option Addr := match aidx n len x j with
  | some (.pointer a) => a
  | _ => none
def aindexAddrK (P : Program) (t : TypeId) (x i : Value) (k : Value → Option R) : Option R :=
  match P.underlying t with
  | some (.slice e) => (tsize P e).bind fun n => match i with
    | .int _ j => obind (sidxA n x j) fun a => k (.pointer (some a))
    | _ => none
  | some (.array len e) => (tsize P e).bind fun n => match i with
    | .int _ j => obind (aidxA n len x j) fun a => k (.pointer (some a))
    | _ => none
  | _ => none
theorem aindexAddrK_eq {P : Program} {t : TypeId} {x i : Value} {k : Value → Option R} {r : R} (e : aindexAddrK P t x i k = some r) : ∃ u, aindexAddr P t x i = some u ∧ k u = some r := by
  unfold aindexAddrK at e
  split at e
  · rename_i el hu
    obtain ⟨n, hn, e⟩ := Option.bind_eq_some_iff.1 e
    split at e
    · obtain ⟨a, ha, e⟩ := Option.bind_eq_some_iff.1 e
      unfold sidxA at ha
      split at ha
      · rename_i hs; subst ha; exact ⟨_, by simp [aindexAddr, hu, hn, hs], e⟩
      · simp at ha
    · simp at e
  · rename_i len el hu
    obtain ⟨n, hn, e⟩ := Option.bind_eq_some_iff.1 e
    split at e
    · obtain ⟨a, ha, e⟩ := Option.bind_eq_some_iff.1 e
      unfold aidxA at ha
      split at ha
      · rename_i hs; subst ha; exact ⟨_, by simp [aindexAddr, hu, hn, hs], e⟩
      · simp at ha
    · simp at e
  · simp at e
--@prim
def vNil : Value → Option Value
  | .pointer (some a) => some (.pointer (some a))
  | .func (.func f) a b => some (.func (.func f) a b)
  | _ => none
theorem vNil_eq {x v : Value} (e : vNil x = some v) : v = x ∧ ((∃ a, x = .pointer (some a)) ∨ ∃ f a b, x = .func (.func f) a b) := by
  unfold vNil at e
  split at e
  · simp only [Option.some.injEq] at e; exact ⟨e.symm, .inl ⟨_, rfl⟩⟩
  · simp only [Option.some.injEq] at e; exact ⟨e.symm, .inr ⟨_, _, _, rfl⟩⟩
  · simp at e
--@prim
def noStr {β : Type} (x : Value) (r : Option β) : Option β := match x with
  | .string _ => none
  | _ => r
theorem noStr_eq {β : Type} {x : Value} {r : Option β} {b : β} (e : noStr x r = some b) : r = some b := by
  unfold noStr at e; split at e <;> simp_all
--@prim
def copyOk {β : Type} (x : Value) (b : Bool) (r : Option β) : Option β := match b with
  | true => r
  | false => noStr x r
theorem copyOk_eq {β : Type} {x : Value} {c : Bool} {r : Option β} {b : β} (e : copyOk x c r = some b) : r = some b := by
  unfold copyOk at e; split at e
  · exact e
  · exact noStr_eq e
end

abbrev AFn := List Value → St → Option (Value × St)

section
variable {R : Type}
/-- A builtin. -/
def abuiltin (P : Program) (h : St) (b : Builtin) (ts : List TypeId) (xs : List Value) (k : Value → St → Option R) : Option R :=
  match b, ts, xs with
  | .len, [t], [x] => alenK P h t x fun v => k v h
  | .append, [t, u], [s, x] => match P.underlying u with
    | some (.slice _) => obind (noStr x (aappend P h t s x)) fun r => deco1 (.sc .slice) r.1 fun v => k v r.2
    | some .string => if (telem P t).bind (tsize P) = some 1 then obind (aappend P h t s x) fun r => deco1 (.sc .slice) r.1 fun v => k v r.2 else none
    | _ => none
  | .copy, [t, _], [d, x] => obind (copyOk x (decide ((telem P t).bind (tsize P) = some 1)) (acopy P h t d x)) fun r => deco1 (.sc (.int .i64)) r.1 fun v => k v r.2
  | .clear, [t], [d] => obind (aclear P h t d) fun h => k undef h
  | .max, _, xs => obind (aminmax true xs) fun v => k v h
  | .min, _, xs => obind (aminmax false xs) fun v => k v h
  | _, _, _ => none

/-- An operation that is no call of a Go function and touches no variable of the frame's own. -/
def aop (P : Program) (h : St) (ρ : Operand → Value) (o : Oper) (k : Value → St → Option R) : Option R :=
  match o.op with
  | .move x | .assign x => k (ρ x) h
  | .pick c a b => match ρ c with
    | .bool c => k (apick c (ρ a) (ρ b)) h
    | _ => none
  | .alloc t => obind (aalloc P h t) fun r => k r.1 r.2
  | .box _ x => k (abox h (ρ x)).1 (abox h (ρ x)).2
  | .build t ps => obind (abuild P t (ps.toList.map fun p => (p.1, ρ p.2))) fun v => k v h
  | .buildSlice t n ps => obind (abuildSlice P h t n (ps.toList.map fun p => (p.1, ρ p.2))) fun r => k r.1 r.2
  | .load t a => obind (aload P h t (ρ a)) fun v => deco1 (tshape1 P t) v fun v => k v h
  | .store t a x => obind (astore P h t (ρ a) (ρ x)) fun h => k undef h
  | .nilCheck x => match ρ x with
    | .pointer a => obind a fun a => k (.pointer (some a)) h
    | v => obind (vNil v) fun v => k v h
  | .binOp op t x y _ => abinK P h op t x y (ρ x) (ρ y) fun v => k v h
  | .unOp op _ x => obind (aun op (ρ x)) fun v => k v h
  | .convert s d x => match isBytes P s d with
    | true => obind (sbytes h (ρ x)) fun s => k (.string s) h
    | false => obind (aconvert P s d (ρ x)) fun v => k v h
  | .makeInterface t x => match P.underlying t with
    | some (.interface _) | none => none
    | _ => k (.iface t (ρ x)) h
  | .makeFunc (.func f) a b => k (.func (.func f) (a.toList.map ρ).toArray (b.toList.map ρ).toArray) h
  | .makeMap t r => match P.underlying t, r.map ρ with
    | some (.map _ _), none => k (.map (some h.next)) (h.new (.map false []))
    | some (.map _ _), some (.int _ _) => k (.map (some h.next)) (h.new (.map false []))
    | _, _ => none
  | .makeSlice t l c => obind (amakeSlice P h t (ρ l) (ρ c)) fun r => deco1 (.sc .slice) r.1 fun v => k v r.2
  | .slice t x lo hi none => asliceK P h t (ρ x) (lo.map ρ) (hi.map ρ) fun v => k v h
  | .fieldAddr t x f => obind (afieldAddr P t (ρ x) f) fun v => k v h
  | .field t x f => obind (afield P t (ρ x) f) fun v => k v h
  | .indexAddr t x i => aindexAddrK P t (ρ x) (ρ i) fun v => k v h
  | .index t x i => aindexK P t (ρ x) (ρ i) fun v => deco1 (tshape1 P o.type) v fun v => k v h
  | .lookup t x key ok => alookupK P h t (ρ x) (ρ key) ok fun v => deco (tshape P o.type) v fun v => k v h
  | .mapUpdate t m key x | .insert t m key x => obind (amapUpdate P h t (ρ m) (ρ key) (ρ x)) fun h => k undef h
  | .extract x i => match ρ x with
    | .tuple vs => (vs.toList[i]?).bind fun v => k v h
    | _ => none
  | .call { callee := .builtin b, args, argTypes } => abuiltin P h b argTypes.toList (args.toList.map ρ) k
  | _ => none

/-- The Go function that a value calls, with its arguments. -/
def acallee : Value → List Value → Option (FuncId × List Value)
  | .func (.func f) first captured, args => some (f, first.toList ++ args ++ captured.toList)
  | _, _ => none

/-- Where a slot of the frame's own variables points: the variable's slot, the cell. -/
def aloc (L : List Nat) (t : List Value) (s : Nat) : Option (Nat × Nat) :=
  if L.contains s then some (s, 0) else match t.getD s undef with
    | .complex .f32 r o => some (r, o)
    | _ => none
def clear1 (r d : Nat) (t : List Value) : List Value := match t.getD d undef with
  | .complex .f32 r' _ => if r' = r then t.set d undef else t
  | _ => t
/-- The slots that point into variable r are worth nothing any more. -/
def clearD (r : Nat) : List Nat → List Value → List Value
  | [], t => t
  | d :: ds, t => clearD r ds (clear1 r d t)
def acheck (s : Sc) (c : Value) (k : Value → Option R) : Option R := match s with
  | .any => obind (vOne c) k
  | .int _ => match c with
    | .int a b => k (.int a b)
    | _ => none
  | .bool => match c with
    | .bool b => k (.bool b)
    | _ => none
  | .str => match c with
    | .string b => k (.string b)
    | _ => none
  | .ptr => match c with
    | .pointer a => k (.pointer a)
    | _ => none
  | .slice => match c with
    | .slice a l g => k (.slice a l g)
    | _ => none
  | .map => match c with
    | .map r => k (.map r)
    | _ => none
def achecks : List Sc → List Value → (List Value → Option R) → Option R
  | [], [], k => k []
  | s :: ss, c :: cs, k => acheck s c fun c => achecks ss cs fun r => k (c :: r)
  | _, _, _ => none
/-- The cells of a value of a type. -/
def acells (P : Program) (T : TypeId) (v : Value) (k : List Value → Option R) : Option R :=
  (tagg P T).bind fun g => (tscs P 6 T).bind fun ss => (tsize P T).bind fun n => if ss.length = n then
    (if g then match v with
      | .agg cs => achecks ss cs.toList k
      | _ => none
    else achecks ss [v] k) else none

/-- A load out of a variable of the frame's own. -/
def aloadL (P : Program) (T : TypeId) (cs : Array Value) (p : Nat) : Option Value :=
  (tagg P T).bind fun g => if g then (tsize P T).bind fun n => if p + n ≤ cs.size then some (.agg (((cs.toList.drop p).take n)).toArray) else none
    else cs.toList[p]?

/-- The slots that point into variables are worth nothing from one region to the next. -/
def dropD : List Nat → List Value → List Value
  | [], t => t
  | d :: ds, t => dropD ds (t.set d undef)
/-- What a condition has said. -/
def asaid (t : List Value) (c : Operand) (b : Bool) : List Value := match c with
  | .tmp d => t.set d (.bool b)
  | _ => t

/-- An operation. L: the slots that hold a variable of the frame's own, D: those that point into one. -/
def astep (callf : FuncId → AFn) (P : Program) (L D : List Nat) (h : St) (t : List Value) (o : Oper) (k : List Value → St → Option R) : Option R :=
  let gen : Unit → Option R := fun _ => aop P h (aev t) o fun v h => k (aput t o.dst v) h
  match o.op with
  | .alloc T => match o.dst with
    | some d => if L.contains d then (tzero P T).bind fun z => k ((clearD d D t).set d (.agg z.cells)) h else gen ()
    | none => gen ()
  | .box T x => match o.dst with
    | some d => if L.contains d then acells P T (aev t x) fun cs => k ((clearD d D t).set d (.agg cs.toArray)) h else gen ()
    | none => gen ()
  | .fieldAddr T x f => match o.dst with
    | some d => if D.contains d then match x with
        | .tmp s => (tfield P T f).bind fun fd => (tsize P fd.type).bind fun n => if n ≠ 0 then
            (aloc L t s).bind fun p => match t.getD p.1 undef with
              | .agg _ => k (t.set d (.complex .f32 p.1 (p.2 + fd.offset))) h
              | _ => none
          else none
        | _ => none
      else gen ()
    | none => gen ()
  | .load T x => match x with
    | .tmp s => if L.contains s || D.contains s then
        (aloc L t s).bind fun p => match t.getD p.1 undef with
          | .agg cs => (aloadL P T cs p.2).bind fun v => k (aput t o.dst v) h
          | _ => none
      else gen ()
    | _ => gen ()
  | .store T x y => match x with
    | .tmp s => if L.contains s || D.contains s then
        (aloc L t s).bind fun p => match t.getD p.1 undef with
          | .agg cs => acells P T (aev t y) fun vs => if p.2 + vs.length ≤ cs.size then k (t.set p.1 (.agg (splice cs.toList p.2 vs).toArray)) h else none
          | _ => none
      else gen ()
    | _ => gen ()
  | .call { callee := .value f, args, .. } => (acallee (aev t f) (args.toList.map (aev t))).bind fun c => obind (callf c.1 c.2 h) fun r => deco (tshape P o.type) r.1 fun v => k (aput t o.dst v) r.2
  | _ => gen ()

/-- The slot of the operation that a guard asks. -/
def gslot (ops : Array Oper) (j : Nat) : Option Nat := (ops[j]?).bind (·.dst)

/-- Operations one behind the other. -/
def aops (callf : FuncId → AFn) (P : Program) (L D : List Nat) (ops : Array Oper) (k : List Value → St → Option R) : List Oper → List Value → St → Option R
  | [], t, h => k t h
  | o :: os, t, h =>
      match o.guard with
      | none => astep callf P L D h t o (aops callf P L D ops k os)
      | some (j, want) => match gslot ops j with
        | none => aops callf P L D ops k os (aput t o.dst undef) h
        | some d => match t.getD d undef with
          | .bool b =>
            match want with
            | true => bcond b (astep callf P L D h (t.set d (.bool true)) o (aops callf P L D ops k os)) (aops callf P L D ops k os (aput (t.set d (.bool false)) o.dst undef) h)
            | false => bcond b (aops callf P L D ops k os (aput (t.set d (.bool true)) o.dst undef) h) (astep callf P L D h (t.set d (.bool false)) o (aops callf P L D ops k os))
          | _ => aops callf P L D ops k os (aput t o.dst undef) h
end

inductive AEx where
  | normal
  | exit (id : Nat)
  | ret
  deriving DecidableEq, Inhabited

def aloop {R : Type} (body : (AEx → List Value → St → Option R) → List Value → St → Option R) (k : AEx → List Value → St → Option R) : Nat → List Value → St → Option R
  | 0, _, _ => none
  | n + 1, t, h => body (fun e t h => match e with
    | .normal => aloop body k n t h
    | .exit i => k (.exit i) t h
    | .ret => k .ret t h) t h

/-- How a region that draws its order is gone through (AmDraw). -/
abbrev Drawer := (R : Type) → (FuncId → AFn) → Program → List Nat → List Nat → Array Oper → (List Value → St → Option R) → List Value → St → Option R

def acode (W : Drawer) {R : Type} (callf : FuncId → AFn) (P : Program) (L D : List Nat) (n : Nat) : Code → (AEx → List Value → St → Option R) → List Value → St → Option R
  | .skip, k, t, h => k .normal t h
  | .label _, k, t, h => k .normal t h
  | .region _ ops draw, k, t, h => if draw then W R callf P L D ops (k .normal) t h else aops callf P L D ops (k .normal) ops.toList (dropD D t) h
  | .seq a b, k, t, h => acode W callf P L D n a (fun e t h => match e with
    | .normal => acode W callf P L D n b k t h
    | .exit i => k (.exit i) t h
    | .ret => k .ret t h) t h
  | .cond c x y, k, t, h => match aev t c with
    | .bool b => bcond b (acode W callf P L D n x k (asaid t c true) h) (acode W callf P L D n y k (asaid t c false) h)
    | _ => none
  | .block id b, k, t, h => acode W callf P L D n b (fun e t h => match e with
    | .normal => k .normal t h
    | .exit i => if i = id then k .normal t h else k (.exit i) t h
    | .ret => k .ret t h) t h
  | .loop b, k, t, h => aloop (fun k t h => acode W callf P L D n b k t h) k n t h
  | .exit id, k, t, h => k (.exit id) t h
  | .ret, k, t, h => k .ret t h
  | _, _, _, _ => none

/-- The results of a function. -/
def aresult (P : Program) (L : List Nat) (h : St) (t : List Value) : ResultVar → Option Value
  | .tmp i => some (t.getD i undef)
  | .cell a T => if L.contains a then match t.getD a undef with
      | .agg cs => aloadL P T cs 0
      | _ => none
    else aload P h T (t.getD a undef)
def aresultL (P : Program) (L : List Nat) (h : St) (t : List Value) : List ResultVar → Option (List Value)
  | [] => some []
  | r :: rs => (aresult P L h t r).bind fun v => (aresultL P L h t rs).bind fun vs => some (v :: vs)
def aresults (P : Program) (L : List Nat) (h : St) (t : List Value) (rs : List ResultVar) : Option Value := (aresultL P L h t rs).bind fun vs => match vs with
  | [v] => some v
  | vs => some (.tuple vs.toArray)

/-- What is known of a function by its code: which slots hold variables of the frame's own, which point into them. -/
structure FInfo where
  fn : Func
  L : List Nat
  D : List Nat
/-- The functions that are known: by their code; by what is known of them. -/
structure Env where
  fn : FuncId → Option FInfo
  ext : FuncId → Option AFn

def acall (W : Drawer) (E : Env) (P : Program) : Nat → FuncId → AFn
  | 0, _, _, _ => none
  | n + 1, f, args, h =>
    match E.ext f with
    | some g => g args h
    | none => match E.fn f with
      | some i => match i.fn.body with
        | some c => if (i.L.all fun d => Nat.ble args.length d) && (i.D.all fun d => Nat.ble args.length d) then acode W (acall W E P n) P i.L i.D n c (fun e t h => match e with
            | .normal => obind (aresults P i.L h t i.fn.results.toList) fun v => some (v, h)
            | .ret => obind (aresults P i.L h t i.fn.results.toList) fun v => some (v, h)
            | .exit _ => none) (args ++ List.replicate (i.fn.ntmps - args.length) undef) h else none
        | none => none
      | none => none

/-! what must be so of the code (looked at once, no part of the evaluation) -/
def okOperand (L D : List Nat) : Operand → Bool
  | .tmp i => !(L.contains i || D.contains i)
  | .func _ => true
  | .const v => flat v
  | .global _ => false
def okOper (L D : List Nat) (ops : Array Oper) (o : Oper) : Bool :=
  (match o.guard with
   | none => true
   | some (j, _) => match gslot ops j with
     | some d => !(L.contains d || D.contains d)
     | none => true) &&
  match o.op with
  | .alloc _ => match o.dst with
    | some d => !D.contains d
    | none => true
  | .box _ x => (match o.dst with
    | some d => !D.contains d
    | none => true) && okOperand L D x
  | .fieldAddr _ x _ => match o.dst with
    | some d => if D.contains d then !L.contains d && (match x with | .tmp s => L.contains s || D.contains s | _ => false) else !L.contains d && okOperand L D x
    | none => okOperand L D x
  | .load _ x => (match o.dst with
    | some d => !(L.contains d || D.contains d)
    | none => true) && (match x with | .tmp s => true | x => okOperand L D x)
  | .store _ x y => o.dst.isNone && okOperand L D y && (match x with | .tmp s => true | x => okOperand L D x)
  | op => (match o.dst with
    | some d => !(L.contains d || D.contains d)
    | none => true) && op.operands.toList.all (okOperand L D)
/-- A guarded operation makes no variable of the frame's own. -/
def okG (L D : List Nat) (ops : Array Oper) (o : Oper) : Bool :=
  okOper L D ops o && match o.guard with
    | none => true
    | some _ => match o.dst with
      | some d => !L.contains d
      | none => true
def okCode (dk : List Nat → List Nat → Array Oper → Bool) (L D : List Nat) : Code → Bool
  | .region _ ops draw => if draw then dk L D ops else ops.toList.all (okG L D ops)
  | .seq a b => okCode dk L D a && okCode dk L D b
  | .cond c a b => okOperand L D c && okCode dk L D a && okCode dk L D b
  | .block _ b => okCode dk L D b
  | .loop b => okCode dk L D b
  | _ => true
def okFunc (dk : List Nat → List Nat → Array Oper → Bool) (i : FInfo) : Bool :=
  i.fn.name != "runtime.NumGoroutine" && (i.L.all fun d => !i.D.contains d) && (i.fn.results.toList.all fun r => match r with
    | .tmp d => !(i.L.contains d || i.D.contains d)
    | .cell d _ => !i.D.contains d) && match i.fn.body with
    | some c => okCode dk i.L i.D c
    | none => true
end Go.Am
