/- One step of a frame. -/
import Derived.Test.YtgpeieohdelniaaGreatDoorAmSound
namespace Go.Am
open Go Go.RowKit

section
variable {R : Type} {P : Program} {α α' α'' : Corr} {m m' m'' : Mem} {B G U M M' M'' : Nat} {h h' h'' : St} {W0 w w' w'' : World}
variable {γ : Nat → Nat} {L D : List Nat} {t : List Value} {ct : Array Value}

/-- What a Go function comes to. -/
def CallOut (W0 : World) (P : Program) (f : FuncId) (cargs : Array Value) (α : Corr) (m : Mem) (B U M : Nat) (h : St) (w : World) (v : Value) (h' : St) : Prop :=
  (∃ cv α' m' M' w', (callFunc f cargs).run P w = .ok (.value cv) w' ∧ VRel α' m' v cv ∧ Post W0 B M U α m M h w α' m' M' h' w') ∨
  ((callFunc f cargs).run P w = .ok (.enter f cargs) w ∧ Calls P f cargs w fun e w' => ∃ cv α' m' M', e = .returned cv ∧ VRel α' m' v cv ∧ Post W0 B M U α m M h w α' m' M' h' w')
def CallS (W0 : World) (P : Program) (callf : FuncId → AFn) : Prop := ∀ (f : FuncId) (args : List Value) (h : St) (v : Value) (h' : St), callf f args h = some (v, h') → h.next ≤ h'.next ∧
  ∀ (α : Corr) (m : Mem) (B U M : Nat) (w : World) (cargs : Array Value), RRel W0 α m B U M h w → h'.next ≤ U → LRel α m args cargs.toList → CallOut W0 P f cargs α m B U M h w v h'

theorem FRel.put {a : Act} {dst : Option Nat} (F : FRel α m G M γ L D t a.tmps) (hd : ∀ d, dst = some d → L.contains d = false ∧ D.contains d = false) {v cv : Value} (hv : VRel α m v cv) :
    FRel α m G M γ L D (aput t dst v) (a.put dst cv).tmps := by
  cases dst with
  | none => exact F
  | some d => exact F.set (hd d rfl).1 (.inl ⟨(hd d rfl).2, hv⟩)
theorem aput_length (t : List Value) (dst : Option Nat) (v : Value) : (aput t dst v).length = t.length := by cases dst <;> simp [aput]
theorem FRel.evs (F : FRel α m G M γ L D t ct) {xs : List Operand} (ok : ∀ x ∈ xs, okOperand L D x = true) (ds : List Deferred) :
    ∀ x ∈ xs, VRel α m (aev t x) ((⟨ct, ds⟩ : Act).eval x) := fun x hx => F.ev (ok x hx) ds

theorem OpOut.upon {a : Act} {o : Oper} {v : Value} {g g' : St} (hO : OpOut P α g B w (execOp a.eval o) v g') : ∃ α' w' cv, VRel α' g'.m v cv ∧ HRel α' g'.m B w' ∧ Le α g.m α' g'.m ∧ Below B w w' ∧
    ∀ (next : Act → World → Prop) (Q : Exit → Act → World → Prop), next (a.put o.dst cv) w' → o.wp P a w next Q := by
  obtain ⟨α', w', nx, h1, h2, h3, h4, h5⟩ := hO
  rcases h2 with ⟨cv, rfl, h2⟩ | ⟨rfl, rfl⟩
  · exact ⟨α', w', cv, h2, h3, h4, h5, fun next Q hn => by simp only [Oper.wp, h1, Oper.upon]; exact hn⟩
  · exact ⟨α', w', undef, VRel.undef _ _, h3, h4, h5, fun next Q hn => by simp only [Oper.wp, h1, Oper.upon]; exact hn⟩

/-- What a step comes to, all that follows at once. -/
def StepTo (W0 : World) (P : Program) (α : Corr) (m : Mem) (B G U M : Nat) (L D : List Nat) (h : St) (w : World) (a : Act) (o : Oper) (t' : List Value) (h' : St) : Prop :=
  ∀ (next : Act → World → Prop) (Q : Exit → Act → World → Prop),
    (∀ (α' : Corr) (m' : Mem) (M' : Nat) (γ' : Nat → Nat) (w' : World) (cv : Value), Post W0 B G U α m M h w α' m' M' h' w' → FRel α' m' G M' γ' L D t' (a.put o.dst cv).tmps → next (a.put o.dst cv) w') → o.wp P a w next Q

theorem gen_sound {a : Act} {o : Oper} {v : Value} (hi : IsOp P h (aev t) o v h')
    (hd : ∀ d, o.dst = some d → L.contains d = false ∧ D.contains d = false) (ho : ∀ x ∈ o.op.operands.toList, okOperand L D x = true)
    (F : FRel α m G M γ L D t a.tmps) (C : RRel W0 α m B U M h w) (hU : U ≤ G) (hN : h'.next ≤ U) :
    StepTo W0 P α m B G U M L D h w a o (aput t o.dst v) h' := by
  obtain ⟨g', hg, hM⟩ := hi.near C.subFull
  have hρ := F.evs ho a.defers
  have hO := hg.sound (α := α) (B := B) (w := w) (cρ := a.eval) C.heap (fun hlt => C.free _ (Nat.le_refl _) (by rw [hM.next] at hlt; exact Nat.lt_of_lt_of_le hlt hN)) (fun x hx => hρ x (by simpa using hx))
  obtain ⟨α', w', cv, hv, hH, hle, hb, hn⟩ := hO.upon
  intro next Q hnext
  refine hn next Q ?_
  have p : Post W0 B M U α m M h w α' g'.m M h' w' := C.moved hM hN hH hle hb
  exact hnext α' g'.m M γ w' cv (p.lower F.GM) ((F.post hU p).put hd hv)

/-! variables of the frame's own -/
def ghost (m : Mem) (M : Nat) : St := { m := m, next := M, vis := fun _ => true, floor := 0 }

theorem acheck_eq {s : Sc} {c : Value} {k : Value → Option R} {r : R} (e : acheck s c k = some r) : k c = some r ∧ one1 c = true := by
  unfold acheck at e
  split at e
  · obtain ⟨u, hu, e2⟩ := Option.bind_eq_some_iff.1 e; obtain ⟨h0, h1⟩ := vOne_eq hu; exact ⟨h0 ▸ e2, h1⟩
  all_goals
    split at e
    · exact ⟨e, rfl⟩
    · simp at e
theorem achecks_eq : ∀ (ss : List Sc) (cs : List Value) (k : List Value → Option R) (r : R), achecks ss cs k = some r → k cs = some r ∧ ss.length = cs.length ∧ ∀ c ∈ cs, one1 c = true := by
  intro ss
  induction ss with
  | nil =>
    intro cs k r e
    cases cs with
    | nil => exact ⟨e, rfl, by simp⟩
    | cons c cs => simp [achecks] at e
  | cons s ss ih =>
    intro cs k r e
    cases cs with
    | nil => simp [achecks] at e
    | cons c cs =>
      simp only [achecks] at e
      obtain ⟨e1, o1⟩ := acheck_eq e
      obtain ⟨e2, o2, o3⟩ := ih _ _ _ e1
      exact ⟨e2, by simp [o2], by intro d hd; rcases List.mem_cons.1 hd with rfl | hd; exact o1; exact o3 d hd⟩
theorem one1_cells {v : Value} (h : one1 v = true) : v.cells = #[v] := by cases v <;> first | rfl | simp [one1] at h
theorem acells_eq {T : TypeId} {v : Value} {k : List Value → Option R} {r : R} (e : acells P T v k = some r) :
    ∃ n, tsize P T = some n ∧ v.cells.size = n ∧ (∀ c ∈ v.cells.toList, one1 c = true) ∧ k v.cells.toList = some r := by
  unfold acells at e
  obtain ⟨g, hg, e⟩ := Option.bind_eq_some_iff.1 e
  obtain ⟨ss, hss, e⟩ := Option.bind_eq_some_iff.1 e
  obtain ⟨n, hn, e⟩ := Option.bind_eq_some_iff.1 e
  refine ⟨n, hn, ?_⟩
  split at e
  · rename_i hl
    split at e
    · split at e
      · rename_i cs
        obtain ⟨e1, e2, e3⟩ := achecks_eq _ _ _ _ e
        exact ⟨by simp only [Value.cells]; rw [← hl, e2]; simp, e3, e1⟩
      · simp at e
    · obtain ⟨e1, e2, e3⟩ := achecks_eq _ _ _ _ e
      have := one1_cells (e3 v (by simp))
      rw [this]
      exact ⟨by rw [← hl, e2]; rfl, by simpa using e3, by simpa using e1⟩
  · simp at e

theorem aloc_inv (F : FRel α m G M γ L D t ct) {s r o : Nat} {cs : Array Value} (hs : (L.contains s || D.contains s) = true) (e : aloc L t s = some (r, o)) (hr : t.getD r undef = .agg cs) :
    L.contains r = true ∧ ct.getD s undef = .pointer (some ⟨α.blk (γ r), α.off (γ r) + o, none⟩) := by
  unfold aloc at e
  split at e
  · rename_i hL
    simp only [Option.some.injEq, Prod.mk.injEq] at e
    obtain ⟨rfl, rfl⟩ := e
    exact ⟨hL, (F.own hL hr).2.2.2⟩
  · rename_i hL
    have hL' : L.contains s = false := by simpa using hL
    have hD : D.contains s = true := by rw [hL'] at hs; simpa using hs
    split at e
    · rename_i r' o' hc
      simp only [Option.some.injEq, Prod.mk.injEq] at e
      obtain ⟨rfl, rfl⟩ := e
      rcases F.der s hL' hD with h0 | ⟨r'', o'', cs', h1, h2, h3, h4⟩
      · rw [h0] at hc; simp [undef] at hc
      · rw [h1] at hc; cases hc; exact ⟨h2, h4⟩
    · simp at e

theorem ghost_row {id : Nat} {c : List Value} (hm : m id = some (.cells false c)) (o : Nat) : (ghost m M).row ⟨id, o, none⟩ = some c := by
  simp [St.row, St.get, ghost, hm]
theorem ghost_setRow {id : Nat} {c c' : List Value} (hm : m id = some (.cells false c)) (o : Nat) : (ghost m M).setRow ⟨id, o, none⟩ c' = some ((ghost m M).put id (.cells false c')) := by
  simp [St.setRow, St.get, ghost, hm, St.put]

theorem aloadL_eq {T : TypeId} {cs : Array Value} {p : Nat} {v : Value} (hv : aloadL P T cs p = some v) {id : Nat} (hm : m id = some (.cells false cs.toList)) :
    aload P (ghost m M) T (.pointer (some ⟨id, p, none⟩)) = some v := by
  unfold aloadL at hv
  obtain ⟨g, hg, e⟩ := Option.bind_eq_some_iff.1 hv
  split at e
  · rename_i hgt
    obtain ⟨n, hn, e⟩ := Option.bind_eq_some_iff.1 e
    split at e
    · rename_i hfit
      simp only [aload, hg, Option.bind_some, hgt, if_true, hn, ldN, ghost_row hm]
      rw [if_pos (by simpa using hfit)]; exact e
    · simp at e
  · rename_i hgt
    simp only [aload, hg, Option.bind_some, hgt, ld1, ghost_row hm]
    simpa using e

theorem alloc_sound {a : Act} {o : Oper} {T : TypeId} {d : Nat} {z : Value} (he : o.op = .alloc T) (hdst : o.dst = some d) (hz : tzero P T = some z)
    (hL : L.contains d = true)
    (F : FRel α m G M γ L D t a.tmps) (C : RRel W0 α m B U M h w) (hU : U ≤ G) : StepTo W0 P α m B G U M L D h w a o ((clearD d D t).set d (.agg z.cells)) h := by
  have hi : IsOp P (ghost m M) (aev t) o (.pointer (some ⟨M, 0, none⟩)) ((ghost m M).new (.cells false z.cells.toList)) := .alloc T _ _ he (by simp [aalloc, hz, ghost])
  have hO := hi.sound (α := α) (B := B) (w := w) (cρ := a.eval) C.heap (fun _ => C.top M (Nat.le_refl _)) (fun x hx => by simp [he, Op.operands] at hx)
  obtain ⟨α', w', cv, hv, hH, hle, hb, hn⟩ := hO.upon
  obtain ⟨p, F'⟩ := F.fresh C hU hL hH hle hb hv
  intro next Q hnext
  refine hn next Q (hnext α' _ _ (fun i => if i = d then M else γ i) w' cv p ?_)
  rw [hdst]; simpa [Act.put] using F'

theorem box_sound {a : Act} {o : Oper} {T : TypeId} {x : Operand} {d : Nat} (he : o.op = .box T x) (hdst : o.dst = some d)
    (hL : L.contains d = true) (hx : okOperand L D x = true)
    (F : FRel α m G M γ L D t a.tmps) (C : RRel W0 α m B U M h w) (hU : U ≤ G) : StepTo W0 P α m B G U M L D h w a o ((clearD d D t).set d (.agg (aev t x).cells.toList.toArray)) h := by
  have hi : IsOp P (ghost m M) (aev t) o (.pointer (some ⟨M, 0, none⟩)) ((ghost m M).new (.cells false (aev t x).cells.toList)) := .box T x he
  have hO := hi.sound (α := α) (B := B) (w := w) (cρ := a.eval) C.heap (fun _ => C.top M (Nat.le_refl _)) (fun y hy => by
    simp [he, Op.operands] at hy; subst hy; exact F.ev hx a.defers)
  obtain ⟨α', w', cv, hv, hH, hle, hb, hn⟩ := hO.upon
  obtain ⟨p, F'⟩ := F.fresh C hU hL hH hle hb hv
  intro next Q hnext
  refine hn next Q (hnext α' _ _ (fun i => if i = d then M else γ i) w' cv p ?_)
  rw [hdst]; simpa [Act.put] using F'

/-- The operands where a slot of the frame's own is read as the pointer that it is. -/
def gev (t : List Value) (s : Nat) (p : Value) (x : Operand) : Value := match x with
  | .tmp i => if i = s then p else aev t (.tmp i)
  | x => aev t x
theorem gev_self (t : List Value) (s : Nat) (p : Value) : gev t s p (.tmp s) = p := by simp [gev]
theorem gev_ne (t : List Value) (s : Nat) (p : Value) {x : Operand} (h : x ≠ .tmp s) : gev t s p x = aev t x := by
  cases x <;> simp only [gev]
  rw [if_neg (fun e => h (by rw [e]))]

theorem loc_rel (F : FRel α m G M γ L D t ct) {s q o : Nat} {cs : Array Value} (hs : (L.contains s || D.contains s) = true) (e : aloc L t s = some (q, o)) (hr : t.getD q undef = .agg cs) (ds : List Deferred) :
    VRel α m (.pointer (some ⟨γ q, o, none⟩)) ((⟨ct, ds⟩ : Act).eval (.tmp s)) := by
  obtain ⟨h1, h2⟩ := aloc_inv F hs e hr
  show VRel α m _ (ct.getD s undef)
  rw [h2]
  exact .pcell _ _ _ _ (F.own h1 hr).2.2.1

theorem field_sound {a : Act} {o : Oper} {T : TypeId} {s f d q p : Nat} {cs : Array Value} {fd : Field} {n : Nat} (he : o.op = .fieldAddr T (.tmp s) f) (hdst : o.dst = some d)
    (hf : tfield P T f = some fd) (hn : tsize P fd.type = some n) (hn0 : n ≠ 0) (hp : aloc L t s = some (q, p)) (hc : t.getD q undef = .agg cs)
    (hL : L.contains d = false) (hD : D.contains d = true) (hs : (L.contains s || D.contains s) = true)
    (F : FRel α m G M γ L D t a.tmps) (C : RRel W0 α m B U M h w) (hU : U ≤ G) : StepTo W0 P α m B G U M L D h w a o (t.set d (.complex .f32 q (p + fd.offset))) h := by
  have hq := (aloc_inv F hs hp hc).1
  have hi : IsOp P (ghost m M) (gev t s (.pointer (some ⟨γ q, p, none⟩))) o (.pointer (some ⟨γ q, p + fd.offset, none⟩)) (ghost m M) := .fieldAddr T _ f _ he (by
    simp [afieldAddr, hf, hn, gev_self, hn0, aadd])
  have hO := hi.sound (α := α) (B := B) (w := w) (cρ := a.eval) C.heap (fun hlt => absurd hlt (Nat.lt_irrefl _)) (fun y hy => by
    simp [he, Op.operands] at hy; subst hy; rw [gev_self]; exact loc_rel F hs hp hc a.defers)
  obtain ⟨α', w', cv, hv, hH, hle, hb, hn⟩ := hO.upon
  have hle' : Le α m α' m := hle
  have hown := F.own hq hc
  have hcv := VRel.pcell_inv hv hown.2.2.1
  intro next Q hnext
  refine hn next Q (hnext α' m M γ w' cv ⟨⟨hH, C.sub, C.dom, C.free, C.top, C.UM, C.vis, C.fl, C.old.trans hb⟩, hle', hb, Nat.le_refl _, rfl, rfl, Nat.le_refl _, fun _ _ _ => rfl⟩ ?_)
  rw [hdst, hcv]
  have F' := F.mono hle' (Nat.le_refl _) (fun _ _ _ => rfl)
  have := F'.setD (o := p + fd.offset) hL hD hq hc
  simpa [Act.put, Nat.add_assoc] using this

theorem load_sound {a : Act} {o : Oper} {T : TypeId} {s q p : Nat} {cs : Array Value} {v : Value} (he : o.op = .load T (.tmp s))
    (hp : aloc L t s = some (q, p)) (hc : t.getD q undef = .agg cs) (hv : aload P (ghost m M) T (.pointer (some ⟨γ q, p, none⟩)) = some v)
    (hd : ∀ d, o.dst = some d → L.contains d = false ∧ D.contains d = false) (hs : (L.contains s || D.contains s) = true)
    (F : FRel α m G M γ L D t a.tmps) (C : RRel W0 α m B U M h w) (hU : U ≤ G) : StepTo W0 P α m B G U M L D h w a o (aput t o.dst v) h := by
  have hi : IsOp P (ghost m M) (gev t s (.pointer (some ⟨γ q, p, none⟩))) o v (ghost m M) := .load T _ _ he (by simpa [gev_self] using hv)
  have hO := hi.sound (α := α) (B := B) (w := w) (cρ := a.eval) C.heap (fun hlt => absurd hlt (Nat.lt_irrefl _)) (fun y hy => by
    simp [he, Op.operands] at hy; subst hy; rw [gev_self]; exact loc_rel F hs hp hc a.defers)
  obtain ⟨α', w', cv, hv, hH, hle, hb, hn⟩ := hO.upon
  have hle' : Le α m α' m := hle
  intro next Q hnext
  refine hn next Q (hnext α' m M γ w' cv ⟨⟨hH, C.sub, C.dom, C.free, C.top, C.UM, C.vis, C.fl, C.old.trans hb⟩, hle', hb, Nat.le_refl _, rfl, rfl, Nat.le_refl _, fun _ _ _ => rfl⟩ ?_)
  exact (F.mono hle' (Nat.le_refl _) (fun _ _ _ => rfl)).put hd hv

theorem store_sound {a : Act} {o : Oper} {T : TypeId} {s q p n : Nat} {y : Operand} {cs : Array Value} (he : o.op = .store T (.tmp s) y) (hdst : o.dst = none)
    (hp : aloc L t s = some (q, p)) (hc : t.getD q undef = .agg cs) (hn : tsize P T = some n) (hsz : (aev t y).cells.size = n) (h1 : ∀ c ∈ (aev t y).cells.toList, one1 c = true) (hfit : p + n ≤ cs.size)
    (hy : okOperand L D y = true) (hs : (L.contains s || D.contains s) = true)
    (F : FRel α m G M γ L D t a.tmps) (C : RRel W0 α m B U M h w) (hU : U ≤ G) (hN : h.next ≤ U) : StepTo W0 P α m B G U M L D h w a o (t.set q (.agg (splice cs.toList p (aev t y).cells.toList).toArray)) h := by
  have hq := (aloc_inv F hs hp hc).1
  have hown := F.own hq hc
  have hys : y ≠ .tmp s := fun e => by
    subst e; simp only [okOperand, Bool.not_eq_true'] at hy; rw [hy] at hs; simp at hs
  have hi : IsOp P (ghost m M) (gev t s (.pointer (some ⟨γ q, p, none⟩))) o undef ((ghost m M).put (γ q) (.cells false (splice cs.toList p (aev t y).cells.toList))) := .store T _ _ _ he (by
    have hall : (aev t y).cells.toList.all one1 = true := by rw [List.all_eq_true]; exact h1
    simp only [gev_self, gev_ne _ _ _ hys, astore, hn, Option.bind_some, stN, ghost_row hown.2.2.1, ghost_setRow hown.2.2.1]
    rw [if_pos ⟨hsz, by simpa using hfit, hall⟩])
  have hO := hi.sound (α := α) (B := B) (w := w) (cρ := a.eval) C.heap (fun hlt => absurd hlt (Nat.lt_irrefl _)) (fun x hx => by
    simp [he, Op.operands] at hx
    rcases hx with rfl | rfl
    · rw [gev_self]; exact loc_rel F hs hp hc a.defers
    · rw [gev_ne _ _ _ hys]; exact F.ev hy a.defers)
  obtain ⟨α', w', cv, hv, hH, hle, hb, hn⟩ := hO.upon
  obtain ⟨pp, F'⟩ := F.write C hU hN hq hc hH hle hb
  intro next Q hnext
  refine hn next Q (hnext α' _ M γ w' cv pp ?_)
  rw [hdst]; exact F'

/-! a step, taken apart -/
def isLocal (L D : List Nat) (o : Oper) : Bool := match o.op with
  | .alloc _ => match o.dst with
    | some d => L.contains d
    | none => false
  | .box _ _ => match o.dst with
    | some d => L.contains d
    | none => false
  | .fieldAddr _ _ _ => match o.dst with
    | some d => D.contains d
    | none => false
  | .load _ x => match x with
    | .tmp s => L.contains s || D.contains s
    | _ => false
  | .store _ x _ => match x with
    | .tmp s => L.contains s || D.contains s
    | _ => false
  | .call { callee := .value _, .. } => true
  | _ => false

inductive StepIs (callf : FuncId → AFn) (P : Program) (L D : List Nat) (h : St) (t : List Value) (o : Oper) : List Value → St → Prop where
  | gen (v : Value) (h' : St) (hi : IsOp P h (aev t) o v h') (hl : isLocal L D o = false) : StepIs callf P L D h t o (aput t o.dst v) h'
  | alloc (T : TypeId) (d : Nat) (z : Value) (he : o.op = .alloc T) (hd : o.dst = some d) (hL : L.contains d = true) (hz : tzero P T = some z) :
      StepIs callf P L D h t o ((clearD d D t).set d (.agg z.cells)) h
  | box (T : TypeId) (x : Operand) (d : Nat) (he : o.op = .box T x) (hd : o.dst = some d) (hL : L.contains d = true) :
      StepIs callf P L D h t o ((clearD d D t).set d (.agg (aev t x).cells.toList.toArray)) h
  | field (T : TypeId) (s f d q p : Nat) (cs : Array Value) (fd : Field) (n : Nat) (he : o.op = .fieldAddr T (.tmp s) f) (hdst : o.dst = some d) (hD : D.contains d = true)
      (hf : tfield P T f = some fd) (hn : tsize P fd.type = some n) (hn0 : n ≠ 0) (hp : aloc L t s = some (q, p)) (hc : t.getD q undef = .agg cs) :
      StepIs callf P L D h t o (t.set d (.complex .f32 q (p + fd.offset))) h
  | load (T : TypeId) (s q p : Nat) (cs : Array Value) (v : Value) (he : o.op = .load T (.tmp s)) (hs : (L.contains s || D.contains s) = true) (hp : aloc L t s = some (q, p)) (hc : t.getD q undef = .agg cs)
      (hv : ∀ (m : Mem) (M id : Nat), m id = some (.cells false cs.toList) → aload P (ghost m M) T (.pointer (some ⟨id, p, none⟩)) = some v) : StepIs callf P L D h t o (aput t o.dst v) h
  | store (T : TypeId) (s q p n : Nat) (y : Operand) (cs : Array Value) (he : o.op = .store T (.tmp s) y) (hs : (L.contains s || D.contains s) = true) (hp : aloc L t s = some (q, p)) (hc : t.getD q undef = .agg cs)
      (hn : tsize P T = some n) (hsz : (aev t y).cells.size = n) (h1 : ∀ c ∈ (aev t y).cells.toList, one1 c = true) (hfit : p + n ≤ cs.size) :
      StepIs callf P L D h t o (t.set q (.agg (splice cs.toList p (aev t y).cells.toList).toArray)) h
  | call (f : Operand) (args : Array Operand) (ts : Array TypeId) (g : FuncId) (first captured : Array Value) (v : Value) (h' : St) (he : o.op = .call ⟨.value f, args, ts⟩)
      (hf : aev t f = .func (.func g) first captured) (hc : callf g (first.toList ++ args.toList.map (aev t) ++ captured.toList) h = some (v, h')) : StepIs callf P L D h t o (aput t o.dst v) h'

theorem astep_is {callf : FuncId → AFn} {o : Oper} {k : List Value → St → Option R} {r : R} (e : astep callf P L D h t o k = some r) : ∃ t' h', StepIs callf P L D h t o t' h' ∧ k t' h' = some r := by
  have gen : isLocal L D o = false → aop P h (aev t) o (fun v h => k (aput t o.dst v) h) = some r → ∃ t' h', StepIs callf P L D h t o t' h' ∧ k t' h' = some r := fun hl e => by
    obtain ⟨v, h', hi, hk⟩ := aop_is e
    exact ⟨_, _, .gen v h' hi hl, hk⟩
  unfold astep at e
  simp only at e
  split at e
  · rename_i T he
    split at e
    · rename_i d hd
      split at e
      · rename_i hL
        obtain ⟨z, hz, e⟩ := Option.bind_eq_some_iff.1 e
        exact ⟨_, _, .alloc T d z he hd hL hz, e⟩
      · rename_i hL; exact gen (by simp only [isLocal, he, hd]; simpa using hL) e
    · rename_i hd; exact gen (by simp [isLocal, he, hd]) e
  · rename_i T x he
    split at e
    · rename_i d hd
      split at e
      · rename_i hL
        obtain ⟨n, hn, h1, h2, e⟩ := acells_eq e
        exact ⟨_, _, .box T x d he hd hL, e⟩
      · rename_i hL; exact gen (by simp only [isLocal, he, hd]; simpa using hL) e
    · rename_i hd; exact gen (by simp [isLocal, he, hd]) e
  · rename_i T x f he
    split at e
    · rename_i d hd
      split at e
      · rename_i hD
        split at e
        · rename_i s
          obtain ⟨fd, hf, e⟩ := Option.bind_eq_some_iff.1 e
          obtain ⟨n, hn, e⟩ := Option.bind_eq_some_iff.1 e
          split at e
          · rename_i hn0
            obtain ⟨⟨q, p⟩, hp, e⟩ := Option.bind_eq_some_iff.1 e
            split at e
            · rename_i cs hc
              exact ⟨_, _, .field T s f d q p cs fd n he hd hD hf hn hn0 hp hc, e⟩
            · simp at e
          · simp at e
        · simp at e
      · rename_i hD; exact gen (by simp only [isLocal, he, hd]; simpa using hD) e
    · rename_i hd; exact gen (by simp [isLocal, he, hd]) e
  · rename_i T x he
    split at e
    · rename_i s
      split at e
      · rename_i hs
        obtain ⟨⟨q, p⟩, hp, e⟩ := Option.bind_eq_some_iff.1 e
        split at e
        · rename_i cs hc
          obtain ⟨v, hv, e⟩ := Option.bind_eq_some_iff.1 e
          exact ⟨_, _, .load T s q p cs v he hs hp hc (fun m M id hm => aloadL_eq hv hm), e⟩
        · simp at e
      · rename_i hs; exact gen (by simp only [isLocal, he]; simpa using hs) e
    · rename_i hn
      refine gen ?_ e
      simp only [isLocal, he]
      try split
      all_goals first | rfl | (rename_i s; exact absurd rfl (hn s))
  · rename_i T x y he
    split at e
    · rename_i s
      split at e
      · rename_i hs
        obtain ⟨⟨q, p⟩, hp, e⟩ := Option.bind_eq_some_iff.1 e
        split at e
        · rename_i cs hc
          obtain ⟨n, hn, h1, h2, e⟩ := acells_eq e
          split at e
          · rename_i hfit
            exact ⟨_, _, .store T s q p n y cs he hs hp hc hn h1 h2 (by rw [← h1]; simpa using hfit), e⟩
          · simp at e
        · simp at e
      · rename_i hs; exact gen (by simp only [isLocal, he]; simpa using hs) e
    · rename_i hn
      refine gen ?_ e
      simp only [isLocal, he]
      try split
      all_goals first | rfl | (rename_i s; exact absurd rfl (hn s))
  · rename_i f args ts he
    obtain ⟨⟨g, xs⟩, hg, e⟩ := Option.bind_eq_some_iff.1 e
    obtain ⟨⟨v, h'⟩, hv, e⟩ := Option.bind_eq_some_iff.1 e
    have e2 := deco_eq e
    unfold acallee at hg
    split at hg
    · rename_i hf
      simp only [Option.some.injEq, Prod.mk.injEq] at hg
      obtain ⟨rfl, rfl⟩ := hg
      exact ⟨_, _, .call f args ts _ _ _ v h' he hf hv, e2⟩
    · simp at hg
  · rename_i n1 n2 n3 n4 n5 n6
    refine gen ?_ e
    unfold isLocal
    split
    · rename_i T he; exact absurd he (n1 T)
    · rename_i T x he; exact absurd he (n2 T x)
    · rename_i T x f he; exact absurd he (n3 T x f)
    · rename_i T x he; exact absurd he (n4 T x)
    · rename_i T x y he; exact absurd he (n5 T x y)
    · rename_i f args ts he; exact absurd he (n6 f args ts)
    · rfl

theorem Sub.refl (h : St) : Sub h h := ⟨rfl, rfl, fun _ _ k => k⟩
theorem IsOp.next {ρ : Operand → Value} {o : Oper} {v : Value} (e : IsOp P h ρ o v h') : h.next ≤ h'.next := by
  obtain ⟨_, _, hM⟩ := e.near (Sub.refl h); exact hM.le
theorem StepIs.reach {callf : FuncId → AFn} (CS : CallS W0 P callf) {o : Oper} {t' : List Value} (e : StepIs callf P L D h t o t' h') : h.next ≤ h'.next ∧ t'.length = t.length := by
  cases e with
  | gen v h' hi hl => exact ⟨hi.next, aput_length _ _ _⟩
  | alloc => exact ⟨Nat.le_refl _, by simp [clearD_length]⟩
  | box => exact ⟨Nat.le_refl _, by simp [clearD_length]⟩
  | field => exact ⟨Nat.le_refl _, by simp⟩
  | load => exact ⟨Nat.le_refl _, aput_length _ _ _⟩
  | store => exact ⟨Nat.le_refl _, by simp⟩
  | call f args ts g first captured v h' he hf hc => exact ⟨(CS _ _ _ _ _ hc).1, aput_length _ _ _⟩

theorem okOper_gen {ops : Array Oper} {o : Oper} (ok : okOper L D ops o = true) (hl : isLocal L D o = false) :
    (∀ d, o.dst = some d → L.contains d = false ∧ D.contains d = false) ∧ (∀ x ∈ o.op.operands.toList, okOperand L D x = true) := by
  unfold okOper at ok
  rw [Bool.and_eq_true] at ok
  have ok := ok.2
  have dst : ∀ (q : Bool), (match o.dst with | some d => !(L.contains d || D.contains d) | none => true) = true → ∀ d, o.dst = some d → L.contains d = false ∧ D.contains d = false := fun _ h d hd => by
    rw [hd] at h; simpa using h
  unfold isLocal at hl
  split at ok
  · rename_i T he
    simp only [he] at hl
    refine ⟨fun d hd => ?_, by simp [he, Op.operands]⟩
    rw [hd] at ok hl; exact ⟨hl, by simpa using ok⟩
  · rename_i T x he
    simp only [he] at hl
    rw [Bool.and_eq_true] at ok
    refine ⟨fun d hd => ?_, by simpa [he, Op.operands] using ok.2⟩
    have := ok.1
    rw [hd] at this hl; exact ⟨hl, by simpa using this⟩
  · rename_i T x f he
    simp only [he] at hl
    cases hd : o.dst with
    | none => rw [hd] at ok; exact ⟨fun d h => by simp at h, by simpa [he, Op.operands] using ok⟩
    | some d =>
      rw [hd] at ok hl
      simp only at hl
      simp only [hl, Bool.false_eq_true, if_false, Bool.and_eq_true, Bool.not_eq_true'] at ok
      exact ⟨fun d' h => by simp at h; subst h; exact ⟨ok.1, hl⟩, by simpa [he, Op.operands] using ok.2⟩
  · rename_i T x he
    simp only [he] at hl
    rw [Bool.and_eq_true] at ok
    refine ⟨dst true ok.1, ?_⟩
    simp only [he, Op.operands]
    have := ok.2
    cases x with
    | tmp s => simp only at hl; simp [okOperand]; simpa using hl
    | _ => simpa using this
  · rename_i T x y he
    simp only [he] at hl
    simp only [Bool.and_eq_true] at ok
    refine ⟨fun d hd => by rw [hd] at ok; simp at ok, ?_⟩
    simp only [he, Op.operands]
    have h2 := ok.2
    have h1 := ok.1.2
    cases x with
    | tmp s => simp only at hl; simp [h1]; simp [okOperand]; simpa using hl
    | _ => simp [h1]; simpa using h2
  · rw [Bool.and_eq_true] at ok
    exact ⟨dst true ok.1, fun x hx => (List.all_eq_true.1 ok.2) x hx⟩

theorem resolve_value {ρ : Operand → Value} {o : Oper} {f : Operand} {args : Array Operand} {ts : Array TypeId} {g : FuncId} {first captured : Array Value} (he : o.op = .call ⟨.value f, args, ts⟩)
    (hf : ρ f = .func (.func g) first captured) : (execOp ρ o).run P w = (callFunc g (first ++ args.map ρ ++ captured)).run P w := by
  simp [execOp, he, resolve, Deferred.ofValue, hf, invoke]

theorem StepIs.sound {callf : FuncId → AFn} (CS : CallS W0 P callf) {ops : Array Oper} {a : Act} {o : Oper} {t' : List Value} (e : StepIs callf P L D h t o t' h')
    (ok : okOper L D ops o = true) (F : FRel α m G M γ L D t a.tmps) (C : RRel W0 α m B U M h w) (hU : U ≤ G) (hN : h'.next ≤ U) : StepTo W0 P α m B G U M L D h w a o t' h' := by
  cases e with
  | gen v h' hi hl => obtain ⟨h1, h2⟩ := okOper_gen ok hl; exact gen_sound hi h1 h2 F C hU hN
  | alloc T d z he hd hL hz => exact alloc_sound he hd hz hL F C hU
  | box T x d he hd hL =>
    unfold okOper at ok; rw [Bool.and_eq_true] at ok; have ok := ok.2; simp only [he, Bool.and_eq_true] at ok
    exact box_sound he hd hL ok.2 F C hU
  | field T s f d q p cs fd n he hdst hD hf hn hn0 hp hc =>
    unfold okOper at ok; rw [Bool.and_eq_true] at ok; have ok := ok.2; simp only [he, hdst, hD, if_true, Bool.and_eq_true, Bool.not_eq_true'] at ok
    exact field_sound he hdst hf hn hn0 hp hc ok.1 hD ok.2 F C hU
  | load T s q p cs v he hs hp hc hv =>
    unfold okOper at ok; rw [Bool.and_eq_true] at ok; have ok := ok.2; simp only [he, Bool.and_eq_true] at ok
    have hq := (aloc_inv F hs hp hc).1
    exact load_sound he hp hc (hv _ _ _ (F.own hq hc).2.2.1) (fun d hd => by have := ok.1; rw [hd] at this; simpa using this) hs F C hU
  | store T s q p n y cs he hs hp hc hn hsz h1 hfit =>
    unfold okOper at ok; rw [Bool.and_eq_true] at ok; have ok := ok.2; simp only [he, Bool.and_eq_true] at ok
    exact store_sound he (by simpa using ok.1.1) hp hc hn hsz h1 hfit ok.1.2 hs F C hU hN
  | call f args ts g first captured v h' he hf hc =>
    unfold okOper at ok; rw [Bool.and_eq_true] at ok; have ok := ok.2; simp only [he, Bool.and_eq_true] at ok
    have hd : ∀ d, o.dst = some d → L.contains d = false ∧ D.contains d = false := fun d hd => by have := ok.1; rw [hd] at this; simpa using this
    have ho := fun x hx => (List.all_eq_true.1 ok.2) x hx
    have hρ := F.evs ho a.defers
    have hfr := hρ f (by simp [Op.operands, Call.operands])
    rw [hf] at hfr
    obtain ⟨c1, c2, hcf, r1, r2⟩ := hfr.func_inv
    have ra := map_rel (α := α) (m := m) (ρ := aev t) (cρ := a.eval) (xs := args) (fun y hy => hρ y (by simp [Op.operands, Call.operands]; exact .inr (by simpa using hy)))
    have hrun := resolve_value (P := P) (w := w) (ρ := a.eval) he hcf
    have hargs : LRel α m (first.toList ++ args.toList.map (aev t) ++ captured.toList) (c1 ++ args.map a.eval ++ c2).toList := by
      simpa using (r1.append ra).append r2
    intro next Q hnext
    unfold Oper.wp
    rw [hrun]
    rcases (CS _ _ _ _ _ hc).2 α m B U M w _ C hN hargs with ⟨cv, α', m', M', w', h1, h2, h3⟩ | ⟨h1, h2⟩
    · rw [h1]
      exact hnext α' m' M' γ w' cv (h3.lower F.GM) ((F.post hU h3).put hd h2)
    · rw [h1]
      refine Calls.mono h2 fun e w' he => ?_
      obtain ⟨cv, α', m', M', rfl, h2, h3⟩ := he
      exact hnext α' m' M' γ w' cv (h3.lower F.GM) ((F.post hU h3).put hd h2)

end
end Go.Am
