/- Regions that draw their order: what an operation looks at and turns, by its text; blind calls. -/
import Derived.Test.YtgpeieohdelniaaGreatDoorAmCode
namespace Go.Am
open Go Go.RowKit

/-! by the text -/
/-- The variable of the frame's own that a slot stands for, in a region. -/
def baseOf (L D : List Nat) (ops : List Oper) : Nat → Nat → Option Nat
  | 0, _ => none
  | n + 1, s => if L.contains s then some s else if D.contains s then
      match ops.find? (fun o => o.dst == some s) with
      | some o => match o.op with
        | .fieldAddr _ (.tmp x) _ => baseOf L D ops n x
        | _ => none
      | none => none
    else none
def isLD (L D : List Nat) (s : Nat) : Bool := L.contains s || D.contains s
/-- The slots that an operation may turn. -/
def wr (L D : List Nat) (b : Nat → Option Nat) (o : Oper) : List Nat := match o.op with
  | .alloc _ => match o.dst with
    | some d => d :: (if L.contains d then D.filter (fun s => b s == some d) else [])
    | none => []
  | .box _ _ => match o.dst with
    | some d => d :: (if L.contains d then D.filter (fun s => b s == some d) else [])
    | none => []
  | .store _ x _ => match x with
    | .tmp s => (if isLD L D s then (b s).toList else []) ++ o.dst.toList
    | _ => o.dst.toList
  | _ => o.dst.toList
/-- The variable behind an operation's address. -/
def rdb (L D : List Nat) (b : Nat → Option Nat) (o : Oper) : List Nat :=
  let at_ : Operand → List Nat := fun x => match x with
    | .tmp s => if isLD L D s then (b s).toList else []
    | _ => []
  match o.op with
  | .fieldAddr _ x _ => at_ x
  | .load _ x => at_ x
  | .store _ x _ => at_ x
  | _ => []
def rd (L D : List Nat) (b : Nat → Option Nat) (ops : Array Oper) (o : Oper) : List Nat := o.looksAt ops ++ rdb L D b o
/-- The variables behind the addresses are known. -/
def okB (L D : List Nat) (b : Nat → Option Nat) (o : Oper) : Bool :=
  let known : Operand → Bool := fun x => match x with
    | .tmp s => !isLD L D s || (b s).isSome
    | _ => true
  match o.op with
  | .fieldAddr _ x _ => known x && (match o.dst, x with
    | some d, .tmp s => !D.contains d || b d == b s
    | _, _ => true)
  | .load _ x => known x
  | .store _ x _ => known x
  | _ => true
def basic (P : Program) (t : TypeId) : Bool := match P.underlying t with
  | some (.int _) | some .string | some .bool | some (.float _) => true
  | _ => false
/-- What an operation does to the heap: 0 nothing; 1 reads; 2 makes, writes, calls. -/
def hk (P : Program) (L D : List Nat) (o : Oper) : Nat := match o.op with
  | .load _ x => match x with
    | .tmp s => if isLD L D s then 0 else 1
    | _ => 1
  | .store _ x _ => match x with
    | .tmp s => if isLD L D s then 0 else 2
    | _ => 2
  | .alloc _ => match o.dst with
    | some d => if L.contains d then 0 else 2
    | none => 2
  | .box _ _ => match o.dst with
    | some d => if L.contains d then 0 else 2
    | none => 2
  | .binOp _ t _ _ _ => if basic P t then 0 else 1
  | .slice _ _ _ _ _ => 1
  | .convert s _ _ => match P.underlying s with
    | some (.slice _) => 1
    | _ => 0
  | .lookup _ _ _ _ => 1
  | .call ⟨.builtin .len, _, ts⟩ => match P.underlying (ts.toList.getD 0 0) with
    | some (.map _ _) => 1
    | _ => 0
  | .call ⟨.builtin .max, _, _⟩ => 0
  | .call ⟨.builtin .min, _, _⟩ => 0
  | .move _ | .assign _ | .pick _ _ _ | .build _ _ | .nilCheck _ | .unOp _ _ _ | .makeInterface _ _ | .makeFunc _ _ _ | .fieldAddr _ _ _ | .field _ _ _ | .indexAddr _ _ _ | .index _ _ _ | .extract _ _ => 0
  | _ => 2

section
variable {R : Type} {P : Program} {α α' α'' : Corr} {m m' m'' : Mem} {B G U M M' M'' : Nat} {h h' h'' g : St} {W0 w w' w'' : World}
variable {γ : Nat → Nat} {L D : List Nat} {t u : List Value} {ct : Array Value} {callf : FuncId → AFn} {o : Oper}

/-! the heap's part -/
theorem abin_basic {op : BinOp} {t : TypeId} {x y : Operand} {a b : Value} {v : Value} (hb : basic P t = true) (k : abin P h op t x y a b = some v) (g : St) : abin P g op t x y a b = some v := by
  have hq : ∀ r, aeql P h t x y a b = some r → aeql P g t x y a b = some r := fun r k => by
    unfold basic at hb
    unfold aeql at k ⊢
    split at hb
    · rename_i hu; simp only [hu] at k ⊢; exact k
    · rename_i hu; simp only [hu] at k ⊢; exact k
    · rename_i hu; simp only [hu] at k ⊢
      split at k
      · rename_i hg; rw [if_pos hg]; simp only [aeq, hu] at k ⊢; exact k
      · simp at k
    · rename_i hu; simp only [hu] at k ⊢; exact k
    · simp at hb
  unfold abin at k ⊢
  split at k
  · exact k
  · exact k
  · exact k
  · exact k
  · obtain ⟨r, hr, k⟩ := Option.bind_eq_some_iff.1 k
    simp only [obind, hq r hr, Option.bind_some]; exact k
  · obtain ⟨r, hr, k⟩ := Option.bind_eq_some_iff.1 k
    simp only [obind, hq r hr, Option.bind_some]; exact k
  · simp at k

theorem alen_other {t : TypeId} {x v : Value} (hm : ∀ a b, P.underlying t ≠ some (.map a b)) (k : alen P h t x = some v) (g : St) : alen P g t x = some v := by
  unfold alen at k ⊢
  split at k
  · rename_i hu; exact k
  · exact k
  · exact k
  · rename_i a b hu; exact absurd hu (hm a b)
  · exact k

theorem IsOp.pure {ρ : Operand → Value} {v : Value} (e : IsOp P h ρ o v h') (hl : isLocal L D o = false) (hz : hk P L D o = 0) : h' = h ∧ ∀ g, IsOp P g ρ o v g := by
  cases e with
  | move x he => exact ⟨rfl, fun g => .move x he⟩
  | pick c a b q he hc => exact ⟨rfl, fun g => .pick c a b q he hc⟩
  | build t ps v he k => exact ⟨rfl, fun g => .build t ps v he k⟩
  | nilPtr x a he hx => exact ⟨rfl, fun g => .nilPtr x a he hx⟩
  | nilFun x f a b he hx => exact ⟨rfl, fun g => .nilFun x f a b he hx⟩
  | bin op t x y yt v he k =>
    refine ⟨rfl, fun g => .bin op t x y yt v he (abin_basic ?_ k g)⟩
    simp only [hk, he] at hz
    cases hb : basic P t
    · simp [hb] at hz
    · rfl
  | un op t x v he k => exact ⟨rfl, fun g => .un op t x v he k⟩
  | convert s' d x v he k => exact ⟨rfl, fun g => .convert s' d x v he k⟩
  | bytes s' d x v he hb k => simp only [hk, he] at hz; unfold isBytes at hb; split at hb <;> simp_all
  | iface t x d he hu hd => exact ⟨rfl, fun g => .iface t x d he hu hd⟩
  | func f a b he => exact ⟨rfl, fun g => .func f a b he⟩
  | fieldAddr t x f v he k => exact ⟨rfl, fun g => .fieldAddr t x f v he k⟩
  | field t x f v he k => exact ⟨rfl, fun g => .field t x f v he k⟩
  | indexAddr t x i v he k => exact ⟨rfl, fun g => .indexAddr t x i v he k⟩
  | index t x i v he k => exact ⟨rfl, fun g => .index t x i v he k⟩
  | extract x i vs v he hx k => exact ⟨rfl, fun g => .extract x i vs v he hx k⟩
  | len args ts t x v he ht hx k =>
    refine ⟨rfl, fun g => .len args ts t x v he ht hx (alen_other (fun a b hu => ?_) k g)⟩
    simp [hk, he, ht, hu] at hz
  | max args ts v he k => exact ⟨rfl, fun g => .max args ts v he k⟩
  | min args ts v he k => exact ⟨rfl, fun g => .min args ts v he k⟩
  | alloc t v h' he k =>
    simp only [hk, he] at hz; simp only [isLocal, he] at hl
    cases hd : o.dst with
    | none => simp [hd] at hz
    | some d => simp only [hd] at hz hl; rw [hl] at hz; simp at hz
  | box t x he =>
    simp only [hk, he] at hz; simp only [isLocal, he] at hl
    cases hd : o.dst with
    | none => simp [hd] at hz
    | some d => simp only [hd] at hz hl; rw [hl] at hz; simp at hz
  | load t a v he k =>
    simp only [hk, he] at hz; simp only [isLocal, he] at hl
    cases a <;> simp_all [isLD]
  | store t a x h' he k =>
    simp only [hk, he] at hz; simp only [isLocal, he] at hl
    cases a <;> simp_all [isLD]
  | slice t x lo hi v he k => simp [hk, he] at hz
  | lookup t x i ok v he k => simp [hk, he] at hz
  | buildSlice t n ps v h' he k => simp [hk, he] at hz
  | makeMap t a e r he hu hr => simp [hk, he] at hz
  | makeSlice t l c v h' he k => simp [hk, he] at hz
  | mapUpdate t m i x h' he k => rcases he with he | he <;> simp [hk, he] at hz
  | append args ts t u d s' x v h' he ht hx hu hd k => simp [hk, he] at hz
  | copy args ts t u d x v h' he ht hx k => simp [hk, he] at hz
  | clear args ts t d h' he ht hx k => simp [hk, he] at hz

/-- What is there in h is there in g. -/
def Inc (h g : St) : Prop := ∀ id x, h.get id = some x → g.get id = some x
theorem Inc.refl (h : St) : Inc h h := fun _ _ k => k
theorem Inc.trans {h g f : St} (a : Inc h g) (b : Inc g f) : Inc h f := fun id x k => b id x (a id x k)
theorem Inc.sub (s : Inc h g) : Sub h { g with next := h.next, floor := h.floor } := ⟨rfl, rfl, s⟩

theorem IsOp.read {ρ : Operand → Value} {v : Value} (e : IsOp P h ρ o v h') (hl : isLocal L D o = false) (hz : hk P L D o = 1) : h' = h ∧ ∀ g, Inc h g → IsOp P g ρ o v g := by
  cases e with
  | bin op t x y yt v he k => exact ⟨rfl, fun g hg => .bin op t x y yt v he (hg.sub.abin k)⟩
  | len args ts t x v he ht hx k => exact ⟨rfl, fun g hg => .len args ts t x v he ht hx (hg.sub.alen k)⟩
  | load t a v he k => exact ⟨rfl, fun g hg => .load t a v he (hg.sub.aload k)⟩
  | slice t x lo hi v he k => exact ⟨rfl, fun g hg => .slice t x lo hi v he (hg.sub.aslice k)⟩
  | lookup t x i ok v he k => exact ⟨rfl, fun g hg => .lookup t x i ok v he (hg.sub.alookup k)⟩
  | bytes s' d x v he hb k => exact ⟨rfl, fun g hg => .bytes s' d x v he hb (hg.sub.sbytes k)⟩
  | move x he => rcases he with he | he <;> simp [hk, he] at hz
  | alloc t v h' he k =>
    simp only [hk, he] at hz
    cases hd : o.dst with
    | none => simp [hd] at hz
    | some d => simp only [hd] at hz; split at hz <;> simp at hz
  | box t x he =>
    simp only [hk, he] at hz
    cases hd : o.dst with
    | none => simp [hd] at hz
    | some d => simp only [hd] at hz; split at hz <;> simp at hz
  | store t a x h' he k =>
    simp only [hk, he] at hz
    cases a <;> simp at hz
    split at hz <;> simp at hz
  | pick c a b q he hc => simp [hk, he] at hz
  | build t ps v he k => simp [hk, he] at hz
  | nilPtr x a he hx => simp [hk, he] at hz
  | nilFun x f a b he hx => simp [hk, he] at hz
  | un op t x v he k => simp [hk, he] at hz
  | convert s' d x v he k => exact ⟨rfl, fun g _ => .convert s' d x v he k⟩
  | iface t x d he hu hd => simp [hk, he] at hz
  | func f a b he => simp [hk, he] at hz
  | fieldAddr t x f v he k => simp [hk, he] at hz
  | field t x f v he k => simp [hk, he] at hz
  | indexAddr t x i v he k => simp [hk, he] at hz
  | index t x i v he k => simp [hk, he] at hz
  | extract x i vs v he hx k => simp [hk, he] at hz
  | max args ts v he k => simp [hk, he] at hz
  | min args ts v he k => simp [hk, he] at hz
  | buildSlice t n ps v h' he k => simp [hk, he] at hz
  | makeMap t a e r he hu hr => simp [hk, he] at hz
  | makeSlice t l c v h' he k => simp [hk, he] at hz
  | mapUpdate t m i x h' he k => rcases he with he | he <;> simp [hk, he] at hz
  | append args ts t u d s' x v h' he ht hx hu hd k => simp [hk, he] at hz
  | copy args ts t u d x v h' he ht hx k => simp [hk, he] at hz
  | clear args ts t d h' he ht hx k => simp [hk, he] at hz

theorem StepIs.pure {t' : List Value} (e : StepIs callf P L D h t o t' h') (hz : hk P L D o = 0) : h' = h ∧ ∀ g, StepIs callf P L D g t o t' g := by
  cases e with
  | gen v h' hi hl => obtain ⟨rfl, k⟩ := hi.pure hl hz; exact ⟨rfl, fun g => .gen v g (k g) hl⟩
  | alloc T d z he hd hL hz => exact ⟨rfl, fun g => .alloc T d z he hd hL hz⟩
  | box T x d he hd hL => exact ⟨rfl, fun g => .box T x d he hd hL⟩
  | field T s f d q p cs fd n he hdst hD hf hn hn0 hp hc => exact ⟨rfl, fun g => .field T s f d q p cs fd n he hdst hD hf hn hn0 hp hc⟩
  | load T s q p cs v he hs hp hc hv => exact ⟨rfl, fun g => .load T s q p cs v he hs hp hc hv⟩
  | store T s q p n y cs he hs hp hc hn hsz h1 hfit => exact ⟨rfl, fun g => .store T s q p n y cs he hs hp hc hn hsz h1 hfit⟩
  | call f args ts g first captured v h' he hf hc => simp [hk, he] at hz
theorem StepIs.read {t' : List Value} (e : StepIs callf P L D h t o t' h') (hz : hk P L D o = 1) : h' = h ∧ ∀ g, Inc h g → StepIs callf P L D g t o t' g := by
  cases e with
  | gen v h' hi hl => obtain ⟨rfl, k⟩ := hi.read hl hz; exact ⟨rfl, fun g hg => .gen v g (k g hg) hl⟩
  | alloc T d z he hd hL hz => exact ⟨rfl, fun g _ => .alloc T d z he hd hL hz⟩
  | box T x d he hd hL => exact ⟨rfl, fun g _ => .box T x d he hd hL⟩
  | field T s f d q p cs fd n he hdst hD hf hn hn0 hp hc => exact ⟨rfl, fun g _ => .field T s f d q p cs fd n he hdst hD hf hn hn0 hp hc⟩
  | load T s q p cs v he hs hp hc hv => exact ⟨rfl, fun g _ => .load T s q p cs v he hs hp hc hv⟩
  | store T s q p n y cs he hs hp hc hn hsz h1 hfit => exact ⟨rfl, fun g _ => .store T s q p n y cs he hs hp hc hn hsz h1 hfit⟩
  | call f args ts g first captured v h' he hf hc => simp [hk, he] at hz

/-! blind calls: they see nothing of what is there -/
def St.blind (h : St) : St := { h with vis := fun id => h.vis id && (h.m id).isNone, floor := h.next }
def St.merge (h r : St) : St := { m := fun id => if h.vis id && (h.m id).isNone then r.m id else h.m id, next := r.next, vis := h.vis, floor := h.floor }
def blindf (callf : FuncId → AFn) : FuncId → AFn := fun f args h => obind (callf f args h.blind) fun r => some (r.1, h.merge r.2)

theorem Inc.merge (h r : St) : Inc h (h.merge r) := fun id x k => by
  obtain ⟨k1, k2⟩ := get_some k
  simp [St.get, St.merge, k1, k2]

theorem RRel.blind (C : RRel W0 α m B U M h w) : RRel W0 α m B U M h.blind w := by
  have none_ : ∀ id o, h.blind.get id = some o → False := fun id o k => by
    obtain ⟨k1, k2⟩ := get_some k
    simp only [St.blind, Bool.and_eq_true] at k1 k2
    rw [k2] at k1; simp at k1
  refine ⟨C.heap, fun id o k => (none_ id o k).elim, fun id o k => (none_ id o k).elim, C.free, C.top, C.UM, fun id hid => ?_, Nat.le_refl _, C.old⟩
  have hv := C.vis id hid
  simp only [St.blind, hv, Bool.true_and]
  cases hm : h.m id with
  | none => rfl
  | some o => have := C.dom id o (by simp [St.get, hv, hm]); exact absurd hid (by simp [St.blind]; omega)

theorem Post.merge {r : St} (C : RRel W0 α m B U M h w) (p : Post W0 B M U α m M h.blind w α' m' M' r w') : Post W0 B M U α m M h w α' m' M' (h.merge r) w' := by
  have hv' := p.vis
  have hnx : h.next ≤ r.next := p.next
  have hfl := C.fl
  have fresh : ∀ id, (h.vis id && (h.m id).isNone) = true → ∀ o, r.m id = some o → r.get id = some o := fun id hid o ho => by
    have : r.vis id = true := by rw [hv']; exact hid
    simp [St.get, this, ho]
  have get : ∀ id o, (h.merge r).get id = some o → r.get id = some o ∨ h.get id = some o := fun id o k => by
    obtain ⟨k1, k2⟩ := get_some k
    simp only [St.merge] at k1 k2
    split at k2
    · rename_i hid; exact .inl (fresh id hid o k2)
    · exact .inr (by simp [St.get, k1, k2])
  have old : ∀ id o, h.get id = some o → m' id = some o := fun id o k => by
    have hm := C.sub id o k
    have hlt : id < M := by
      rcases Nat.lt_or_ge id M with h | h
      · exact h
      · rw [C.top id h] at hm; simp at hm
    obtain ⟨k1, k2⟩ := get_some k
    rw [p.keep id hlt (.inl (by simp [St.blind, k2]))]; exact hm
  refine ⟨⟨p.rel.heap, fun id o k => ?_, fun id o k => ?_, p.rel.free, p.rel.top, p.rel.UM, fun id hid => ?_, ?_, p.rel.old⟩, p.le, p.below, p.MM, rfl, rfl, hnx, fun id hid hc => ?_⟩
  · rcases get id o k with k | k
    · exact p.rel.sub id o k
    · exact old id o k
  · rcases get id o k with k | k
    · exact p.rel.dom id o k
    · exact Nat.lt_of_lt_of_le (C.dom id o k) hnx
  · exact C.vis id (Nat.le_trans hnx hid)
  · exact Nat.le_trans hfl hnx
  · refine p.keep id hid ?_
    rcases hc with hc | hc | hc
    · exact .inl (by simp [St.blind, hc])
    · exact .inr (.inl (Nat.lt_of_lt_of_le hc hfl))
    · exact .inr (.inr hc)

theorem CallS.blind (CS : CallS W0 P callf) : CallS W0 P (blindf callf) := by
  intro f args h v h' e
  obtain ⟨⟨v', r⟩, hr, e⟩ := Option.bind_eq_some_iff.1 e
  simp only [Option.some.injEq, Prod.mk.injEq] at e
  obtain ⟨rfl, rfl⟩ := e
  obtain ⟨h1, h2⟩ := CS _ _ _ _ _ hr
  refine ⟨h1, fun α m B U M w cargs C hN ha => ?_⟩
  rcases h2 α m B U M w cargs C.blind hN ha with ⟨cv, α', m', M', w', k1, k2, k3⟩ | ⟨k1, k2⟩
  · exact .inl ⟨cv, α', m', M', w', k1, k2, k3.merge C⟩
  · exact .inr ⟨k1, k2.mono fun e w' he => let ⟨cv, α', m', M', h1, h2, h3⟩ := he; ⟨cv, α', m', M', h1, h2, h3.merge C⟩⟩

def isCall (o : Oper) : Bool := match o.op with
  | .call ⟨.value _, _, _⟩ => true
  | _ => false
theorem StepIs.blindInc {t' : List Value} (e : StepIs (blindf callf) P L D h t o t' h') (hc : isCall o = true) : Inc h h' := by
  cases e with
  | gen v h' hi hl =>
    unfold isCall at hc
    split at hc
    · rename_i he; simp [isLocal, he] at hl
    · simp at hc
  | call f args ts g first captured v h' he hf hc =>
    obtain ⟨⟨v', r⟩, hr, e⟩ := Option.bind_eq_some_iff.1 hc
    simp only [Option.some.injEq, Prod.mk.injEq] at e
    rw [← e.2]; exact Inc.merge _ _
  | _ => exact Inc.refl _

end
end Go.Am
