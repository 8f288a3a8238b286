/- Pieces of a function: what stands at a place of its code, with all that follows. -/
import Derived.Test.YtgpeieohdelniaaGreatDoorAmExt
namespace Go.Am
open Go

/-- The piece of code at a place. -/
def csub : List Nat → Code → Code
  | [], c => c
  | 0 :: p, .seq a _ => csub p a
  | _ :: p, .seq _ b => csub p b
  | 0 :: p, .cond _ a _ => csub p a
  | _ :: p, .cond _ _ b => csub p b
  | _ :: p, .block _ b => csub p b
  | _ :: p, .loop b => csub p b
  | _ :: _, c => c

section
variable (W : Drawer) {R : Type} (cf : FuncId → AFn) (P : Program) (L D : List Nat) (n : Nat)
/-- What follows behind the piece at a place; fs: how often the loops around it may still be gone through. -/
def kont : List Nat → List Nat → Code → (AEx → List Value → St → Option R) → (AEx → List Value → St → Option R)
  | [], _, _, k => k
  | 0 :: p, fs, .seq a b, k => kont p fs a fun e t h => match e with
    | .normal => acode W cf P L D n b k t h
    | .exit i => k (.exit i) t h
    | .ret => k .ret t h
  | _ :: p, fs, .seq _ b, k => kont p fs b k
  | 0 :: p, fs, .cond _ a _, k => kont p fs a k
  | _ :: p, fs, .cond _ _ b, k => kont p fs b k
  | _ :: p, fs, .block id b, k => kont p fs b fun e t h => match e with
    | .normal => k .normal t h
    | .exit i => if i = id then k .normal t h else k (.exit i) t h
    | .ret => k .ret t h
  | _ :: p, m :: fs, .loop b, k => kont p fs b fun e t h => match e with
    | .normal => aloop (fun k t h => acode W cf P L D n b k t h) k m t h
    | .exit i => k (.exit i) t h
    | .ret => k .ret t h
  | _, _, _, k => k
end

def fcode (i : FInfo) : Code := match i.fn.body with
  | some c => c
  | none => .skip
def kfin (P : Program) (i : FInfo) : AEx → List Value → St → Option (Value × St) := fun e t h => match e with
  | .normal => obind (aresults P i.L h t i.fn.results.toList) fun v => some (v, h)
  | .ret => obind (aresults P i.L h t i.fn.results.toList) fun v => some (v, h)
  | .exit _ => none
/-- A function from a place on. -/
def segAt (W : Drawer) (E : Env) (P : Program) (n : Nat) (i : FInfo) (p fs : List Nat) (t : List Value) (h : St) : Option (Value × St) :=
  acode W (acall W E P n) P i.L i.D n (csub p (fcode i)) (kont W (acall W E P n) P i.L i.D n p fs (fcode i) (kfin P i)) t h
/-- A function from a loop's head on, m rounds left. -/
def segLoop (W : Drawer) (E : Env) (P : Program) (n : Nat) (i : FInfo) (p fs : List Nat) (m : Nat) (t : List Value) (h : St) : Option (Value × St) :=
  match csub p (fcode i) with
  | .loop b => aloop (fun k t h => acode W (acall W E P n) P i.L i.D n b k t h) (kont W (acall W E P n) P i.L i.D n p fs (fcode i) (kfin P i)) m t h
  | _ => none
/-- What is in the slots that are not looked at. -/
def dd (l : List Value) (i : Nat) : Value := l.getD i undef
end Go.Am
