/- From the abstract machine's code to the model's: regions in the text's order, control, calls. -/
import Derived.Test.YtgpeieohdelniaaGreatDoorAmRun
namespace Go.Am
open Go Go.RowKit

section
variable {R : Type} {P : Program} {α α' α'' : Corr} {m m' m'' : Mem} {B G U M M' M'' : Nat} {h h' h'' : St} {W0 w w' w'' : World}
variable {γ : Nat → Nat} {L D : List Nat} {t : List Value} {ct : Array Value}

/-! guards -/
theorem set_self {t : List Value} {d : Nat} {v : Value} (h : t.getD d undef = v) : t.set d v = t := by
  apply List.ext_getElem (by simp)
  intro i h1 h2
  rw [List.getElem_set]
  split
  · rename_i he; subst he
    rw [← h, List.getD_eq_getElem?_getD, List.getElem?_eq_getElem h2]; rfl
  · rfl

/-- Whether an operation is wanted: on this side. -/
def awanted (ops : Array Oper) (t : List Value) (o : Oper) : Bool := match o.guard with
  | none => true
  | some (j, want) => match gslot ops j with
    | none => false
    | some d => match t.getD d undef with
      | .bool b => b == want
      | _ => false

theorem aops_cons {callf : FuncId → AFn} {ops : Array Oper} {k : List Value → St → Option R} {o : Oper} {os : List Oper} :
    aops callf P L D ops k (o :: os) t h = if awanted ops t o then astep callf P L D h t o (aops callf P L D ops k os) else aops callf P L D ops k os (aput t o.dst undef) h := by
  cases hg : o.guard with
  | none => simp only [aops, awanted, hg]; rfl
  | some p =>
    obtain ⟨j, want⟩ := p
    cases hd : gslot ops j with
    | none => simp only [aops, awanted, hg, hd]; rfl
    | some d =>
      cases hb : t.getD d undef with
      | bool b =>
        simp only [aops, awanted, hg, hd, hb]
        cases want <;> cases b <;> simp only [bcond, set_self hb] <;> rfl
      | _ => simp only [aops, awanted, hg, hd, hb]; rfl

theorem VRel.bool_of {v : Value} {b : Bool} (hv : VRel α m v (.bool b)) : v = .bool b := by cases hv; rfl

theorem wanted_eq {ops : Array Oper} {a : Act} {o : Oper} (ok : okOper L D ops o = true) (F : FRel α m G M γ L D t a.tmps) : Region.wanted o (yielded ops a.tmps) = awanted ops t o := by
  unfold Region.wanted awanted
  cases hg : o.guard with
  | none => rfl
  | some p =>
    obtain ⟨j, want⟩ := p
    simp only [yielded, gslot]
    cases hd : (ops[j]?).bind (·.dst) with
    | none => rfl
    | some d =>
      have hok : L.contains d = false ∧ D.contains d = false := by
        unfold okOper at ok; rw [Bool.and_eq_true] at ok; have := ok.1; simp only [hg, gslot, hd] at this; simpa using this
      have hv := F.val d hok.1 hok.2
      have hs := F.size
      simp only [Option.bind_some]
      rw [Array.getD_eq_getD_getElem?] at hv
      cases hc : a.tmps[d]? with
      | none =>
        have : t.getD d undef = undef := by
          rw [List.getD_eq_getElem?_getD, List.getElem?_eq_none (by rw [hs]; exact Array.getElem?_eq_none_iff.1 hc)]; rfl
        rw [this]; rfl
      | some cv =>
        rw [hc] at hv
        simp only [Option.getD_some] at hv
        cases cv with
        | bool b => rw [hv.bool_of]; rfl
        | _ =>
          generalize t.getD d undef = u at hv
          cases u with
          | bool b => have := hv.bool_inv; simp at this
          | _ => rfl

/-! regions in the text's order -/
theorem aops_reach {callf : FuncId → AFn} (CS : CallS W0 P callf) {ops : Array Oper} {k : List Value → St → Option R} {r : R} : ∀ (os : List Oper) (t : List Value) (h : St), aops callf P L D ops k os t h = some r →
    ∃ t' h', k t' h' = some r ∧ h.next ≤ h'.next := by
  intro os
  induction os with
  | nil => intro t h e; exact ⟨t, h, e, Nat.le_refl _⟩
  | cons o os ih =>
    intro t h e
    rw [aops_cons] at e
    split at e
    · obtain ⟨t', h', hs, e⟩ := astep_is e
      obtain ⟨t'', h'', e, hle⟩ := ih _ _ e
      exact ⟨t'', h'', e, Nat.le_trans (hs.reach CS).1 hle⟩
    · exact ih _ _ e

theorem Act.put_defers' (a : Act) (dst : Option Nat) (v : Value) : (a.put dst v).defers = a.defers := by cases dst <;> rfl

theorem FRel.skip {a : Act} {o : Oper} (F : FRel α m G M γ L D t a.tmps) (hd : ∀ d, o.dst = some d → L.contains d = false) : FRel α m G M γ L D (aput t o.dst undef) (a.put o.dst undef).tmps := by
  cases hdst : o.dst with
  | none => exact F
  | some d =>
    refine F.set (hd d hdst) ?_
    cases hD : D.contains d
    · exact .inl ⟨rfl, VRel.undef _ _⟩
    · exact .inr ⟨rfl, rfl⟩

theorem aops_sound {callf : FuncId → AFn} (CS : CallS W0 P callf) {ops : Array Oper} {k : List Value → St → Option R} {r : R} {Q : Exit → Act → World → Prop} (hU : U ≤ G) (hk : ∀ t' h', k t' h' = some r → h'.next ≤ U) :
    ∀ (os : List Oper) (l : List Nat), l.map (fun i => ops[i]?) = os.map some → (∀ o ∈ os, okG L D ops o = true) →
    ∀ (α : Corr) (m : Mem) (M : Nat) (γ : Nat → Nat) (t : List Value) (h : St) (a : Act) (w : World), aops callf P L D ops k os t h = some r → FRel α m G M γ L D t a.tmps → RRel W0 α m B U M h w →
    (∀ (t' : List Value) (h' : St) (α' : Corr) (m' : Mem) (M' : Nat) (γ' : Nat → Nat) (a' : Act) (w' : World), k t' h' = some r → a'.defers = a.defers → Post W0 B G U α m M h w α' m' M' h' w' → FRel α' m' G M' γ' L D t' a'.tmps → Q .normal a' w') →
    wpOps P ops Q l a w := by
  intro os
  induction os with
  | nil =>
    intro l hl _ α m M γ t h a w e F C hQ
    have : l = [] := by simpa using hl
    subst this
    exact hQ t h α m M γ a w e rfl (Post.refl C) F
  | cons o os ih =>
    intro l hl hok α m M γ t h a w e F C hQ
    cases l with
    | nil => simp at hl
    | cons i l =>
      simp only [List.map_cons, List.cons.injEq] at hl
      obtain ⟨ho, hl⟩ := hl
      have hokg := hok o (by simp)
      unfold okG at hokg
      rw [Bool.and_eq_true] at hokg
      have hok' : ∀ o ∈ os, okG L D ops o = true := fun o h => hok o (List.mem_cons_of_mem _ h)
      simp only [wpOps, ho]
      rw [wanted_eq hokg.1 F]
      rw [aops_cons] at e
      split at e
      · rename_i hw
        simp only [hw, if_true]
        left
        obtain ⟨t', h', hs, e⟩ := astep_is e
        obtain ⟨t'', h'', e', hle⟩ := aops_reach CS _ _ _ e
        refine hs.sound CS hokg.1 F C hU (Nat.le_trans hle (hk _ _ e')) _ _ fun α' m' M' γ' w' cv p F' => ?_
        refine ih l hl hok' α' m' M' γ' t' h' _ w' e F' p.rel fun t2 h2 α2 m2 M2 γ2 a2 w2 e2 hd2 p2 F2 => ?_
        exact hQ t2 h2 α2 m2 M2 γ2 a2 w2 e2 (hd2.trans (Act.put_defers' _ _ _)) (p.trans p2) F2
      · rename_i hw
        simp only [hw]
        have hg : ∀ d, o.dst = some d → L.contains d = false := fun d hd => by
          have := hokg.2
          cases hgd : o.guard with
          | none => simp [awanted, hgd] at hw
          | some p => simp only [hgd, hd] at this; simpa using this
        refine ih l hl hok' α m M γ _ h _ w e (F.skip hg) C fun t2 h2 α2 m2 M2 γ2 a2 w2 e2 hd2 p2 F2 => ?_
        exact hQ t2 h2 α2 m2 M2 γ2 a2 w2 e2 (hd2.trans (Act.put_defers' _ _ _)) p2 F2

/-! control -/
def toExit : AEx → Exit
  | .normal => .normal
  | .exit i => .exit i
  | .ret => .ret

/-- What must be so of the way a region that draws its order is gone through. -/
structure DrawS (W0 : World) (W : Drawer) (dk : List Nat → List Nat → Array Oper → Bool) (P : Program) : Prop where
  reach : ∀ (R : Type) (callf : FuncId → AFn) (L D : List Nat) (ops : Array Oper) (k : List Value → St → Option R) (t : List Value) (h : St) (r : R), CallS W0 P callf → W R callf P L D ops k t h = some r →
    ∃ t' h', k t' h' = some r ∧ h.next ≤ h'.next
  sound : ∀ (R : Type) (callf : FuncId → AFn) (L D : List Nat) (id : Nat) (ops : Array Oper) (k : List Value → St → Option R) (t : List Value) (h : St) (r : R) (α : Corr) (m : Mem) (B G U M : Nat) (γ : Nat → Nat) (a : Act) (w : World)
    (Q : Exit → Act → World → Prop), CallS W0 P callf → dk L D ops = true → W R callf P L D ops k t h = some r → FRel α m G M γ L D t a.tmps → RRel W0 α m B U M h w → U ≤ G → (∀ t' h', k t' h' = some r → h'.next ≤ U) →
    (∀ (t' : List Value) (h' : St) (α' : Corr) (m' : Mem) (M' : Nat) (γ' : Nat → Nat) (a' : Act) (w' : World), k t' h' = some r → a'.defers = a.defers → Post W0 B G U α m M h w α' m' M' h' w' → FRel α' m' G M' γ' L D t' a'.tmps → Q .normal a' w') →
    (Code.region id ops true).wp P Q a w

variable {W : Drawer} {dk : List Nat → List Nat → Array Oper → Bool}

theorem bcond_eq {β : Type} (b : Bool) (x y : β) : bcond b x y = if b then x else y := by cases b <;> rfl

theorem aloop_reach {body : (AEx → List Value → St → Option R) → List Value → St → Option R} {r : R}
    (hb : ∀ (k : AEx → List Value → St → Option R) (t : List Value) (h : St), body k t h = some r → ∃ e t' h', k e t' h' = some r ∧ h.next ≤ h'.next) (k : AEx → List Value → St → Option R) :
    ∀ (n : Nat) (t : List Value) (h : St), aloop body k n t h = some r → ∃ e t' h', k e t' h' = some r ∧ h.next ≤ h'.next := by
  intro n
  induction n with
  | zero => intro t h e; simp [aloop] at e
  | succ n ih =>
    intro t h e
    simp only [aloop] at e
    obtain ⟨x, t', h', e, hle⟩ := hb _ _ _ e
    cases x with
    | normal => obtain ⟨x, t2, h2, e2, hle2⟩ := ih _ _ e; exact ⟨x, t2, h2, e2, Nat.le_trans hle hle2⟩
    | exit i => exact ⟨_, _, _, e, hle⟩
    | ret => exact ⟨_, _, _, e, hle⟩

theorem acode_reach (DS : DrawS W0 W dk P) {callf : FuncId → AFn} (CS : CallS W0 P callf) {n : Nat} {r : R} : ∀ (c : Code) (k : AEx → List Value → St → Option R) (t : List Value) (h : St), acode W callf P L D n c k t h = some r →
    ∃ e t' h', k e t' h' = some r ∧ h.next ≤ h'.next := by
  intro c
  induction c with
  | skip => intro k t h e; exact ⟨_, _, _, e, Nat.le_refl _⟩
  | label l => intro k t h e; exact ⟨_, _, _, e, Nat.le_refl _⟩
  | region id ops draw =>
    intro k t h e
    simp only [acode] at e
    split at e
    · obtain ⟨t', h', e, hle⟩ := DS.reach _ _ _ _ _ _ _ _ _ CS e; exact ⟨_, _, _, e, hle⟩
    · obtain ⟨t', h', e, hle⟩ := aops_reach CS _ _ _ e; exact ⟨_, _, _, e, hle⟩
  | seq a b iha ihb =>
    intro k t h e
    simp only [acode] at e
    obtain ⟨x, t', h', e, hle⟩ := iha _ _ _ e
    cases x with
    | normal => obtain ⟨x, t2, h2, e2, hle2⟩ := ihb _ _ _ e; exact ⟨x, t2, h2, e2, Nat.le_trans hle hle2⟩
    | exit i => exact ⟨_, _, _, e, hle⟩
    | ret => exact ⟨_, _, _, e, hle⟩
  | cond c a b iha ihb =>
    intro k t h e
    simp only [acode] at e
    split at e
    · rw [bcond_eq] at e
      split at e
      · exact iha _ _ _ e
      · exact ihb _ _ _ e
    · simp at e
  | block id b ih =>
    intro k t h e
    simp only [acode] at e
    obtain ⟨x, t', h', e, hle⟩ := ih _ _ _ e
    cases x with
    | normal => exact ⟨_, _, _, e, hle⟩
    | exit i =>
      simp only at e
      split at e
      · exact ⟨_, _, _, e, hle⟩
      · exact ⟨_, _, _, e, hle⟩
    | ret => exact ⟨_, _, _, e, hle⟩
  | loop b ih =>
    intro k t h e
    simp only [acode] at e
    exact aloop_reach (fun k t h e => ih k t h e) k n t h e
  | exit id => intro k t h e; exact ⟨_, _, _, e, Nat.le_refl _⟩
  | ret => intro k t h e; exact ⟨_, _, _, e, Nat.le_refl _⟩
  | _ => intros; simp_all [acode]

theorem dropD_length : ∀ (ds : List Nat) (t : List Value), (dropD ds t).length = t.length := by
  intro ds
  induction ds with
  | nil => intro t; rfl
  | cons d ds ih => intro t; simp [dropD, ih]
theorem dropD_val : ∀ (ds : List Nat) (t : List Value) (i : Nat), (dropD ds t).getD i undef = if i ∈ ds then undef else t.getD i undef := by
  intro ds
  induction ds with
  | nil => intro t i; simp [dropD]
  | cons d ds ih =>
    intro t i
    simp only [dropD]
    rw [ih, getD_set]
    by_cases h1 : i ∈ ds
    · rw [if_pos h1, if_pos (List.mem_cons_of_mem _ h1)]
    · rw [if_neg h1]
      by_cases h2 : d = i
      · subst h2
        rw [if_pos (show d ∈ d :: ds by simp)]
        split
        · rfl
        · rename_i hn
          rw [List.getD_eq_getElem?_getD, List.getElem?_eq_none (by simp at hn; exact hn)]; rfl
      · rw [if_neg (fun h => h2 h.1), if_neg (by simp only [List.mem_cons, not_or]; exact ⟨fun e => h2 e.symm, h1⟩)]
theorem FRel.dropD (F : FRel α m G M γ L D t ct) : FRel α m G M γ L D (dropD D t) ct := by
  have hD : ∀ i, D.contains i = true → i ∈ D := fun i h => by simpa using h
  have hL : ∀ i, L.contains i = true → i ∉ D := fun i h k => by have := F.dis i h; simp [k] at this
  refine ⟨by rw [dropD_length]; exact F.size, fun i h1 h2 => ?_, fun i hi => ?_, fun i hl hi => ?_, fun i j cs ds hi hj hne h1 h2 => ?_, F.dis, F.GM⟩
  · rw [dropD_val, if_neg (fun h => by simp [h] at h2)]; exact F.val i h1 h2
  · rw [dropD_val, if_neg (hL i hi)]; exact F.loc i hi
  · left; rw [dropD_val, if_pos (hD i hi)]
  · rw [dropD_val, if_neg (hL i hi)] at h1
    rw [dropD_val, if_neg (hL j hj)] at h2
    exact F.inj i j cs ds hi hj hne h1 h2
theorem asaid_eq {c : Operand} {b : Bool} (e : aev t c = .bool b) : asaid t c b = t := by
  cases c with
  | tmp d => exact set_self e
  | _ => rfl

/-- What is to be shown of a piece of code. -/
def CodeS (W0 : World) (P : Program) (B G U : Nat) (L D : List Nat) (r : R) (c : Code) (run : (AEx → List Value → St → Option R) → List Value → St → Option R) : Prop :=
  ∀ (k : AEx → List Value → St → Option R) (α : Corr) (m : Mem) (M : Nat) (γ : Nat → Nat) (t : List Value) (h : St) (a : Act) (w : World) (Q : Exit → Act → World → Prop),
    (∀ e t' h', k e t' h' = some r → h'.next ≤ U) → run k t h = some r → FRel α m G M γ L D t a.tmps → RRel W0 α m B U M h w →
    (∀ (e : AEx) (t' : List Value) (h' : St) (α' : Corr) (m' : Mem) (M' : Nat) (γ' : Nat → Nat) (a' : Act) (w' : World), k e t' h' = some r → a'.defers = a.defers → Post W0 B G U α m M h w α' m' M' h' w' → FRel α' m' G M' γ' L D t' a'.tmps → Q (toExit e) a' w') →
    c.wp P Q a w

theorem aloop_sound {r : R} {c : Code} {body : (AEx → List Value → St → Option R) → List Value → St → Option R}
    (hr : ∀ (k : AEx → List Value → St → Option R) (t : List Value) (h : St), body k t h = some r → ∃ e t' h', k e t' h' = some r ∧ h.next ≤ h'.next)
    (hb : CodeS W0 P B G U L D r c body) (k : AEx → List Value → St → Option R) (hk : ∀ e t' h', k e t' h' = some r → h'.next ≤ U) :
    ∀ (n : Nat) (α : Corr) (m : Mem) (M : Nat) (γ : Nat → Nat) (t : List Value) (h : St) (a : Act) (w : World) (Q : Exit → Act → World → Prop),
      aloop body k n t h = some r → FRel α m G M γ L D t a.tmps → RRel W0 α m B U M h w →
      (∀ (e : AEx) (t' : List Value) (h' : St) (α' : Corr) (m' : Mem) (M' : Nat) (γ' : Nat → Nat) (a' : Act) (w' : World), k e t' h' = some r → a'.defers = a.defers → Post W0 B G U α m M h w α' m' M' h' w' → FRel α' m' G M' γ' L D t' a'.tmps → Q (toExit e) a' w') →
      Code.rounds P c Q n a w := by
  intro n
  induction n with
  | zero => intro α m M γ t h a w Q e; simp [aloop] at e
  | succ n ih =>
    intro α m M γ t h a w Q e F C hQ
    rw [rounds_succ]
    simp only [aloop] at e
    refine hb _ α m M γ t h a w _ ?_ e F C fun x t' h' α' m' M' γ' a' w' e hd p F' => ?_
    · intro x t' h' e
      cases x with
      | normal => obtain ⟨_, _, _, e2, hle⟩ := aloop_reach hr k n _ _ e; exact Nat.le_trans hle (hk _ _ _ e2)
      | exit i => exact hk _ _ _ e
      | ret => exact hk _ _ _ e
    · cases x with
      | normal => exact ih α' m' M' γ' t' h' a' w' Q e F' p.rel fun x2 t2 h2 α2 m2 M2 γ2 a2 w2 e2 hd2 p2 F2 => hQ x2 t2 h2 α2 m2 M2 γ2 a2 w2 e2 (hd2.trans hd) (p.trans p2) F2
      | exit i => exact hQ _ t' h' α' m' M' γ' a' w' e hd p F'
      | ret => exact hQ _ t' h' α' m' M' γ' a' w' e hd p F'

theorem acode_sound (DS : DrawS W0 W dk P) {callf : FuncId → AFn} (CS : CallS W0 P callf) {n : Nat} {r : R} (hU : U ≤ G) : ∀ (c : Code), okCode dk L D c = true → CodeS W0 P B G U L D r c (fun k t h => acode W callf P L D n c k t h) := by
  intro c
  induction c with
  | skip => intro _ k α m M γ t h a w Q hk e F C hQ; exact wp_skip (hQ .normal t h α m M γ a w e rfl (Post.refl C) F)
  | label l => intro _ k α m M γ t h a w Q hk e F C hQ; exact wp_label (hQ .normal t h α m M γ a w e rfl (Post.refl C) F)
  | region id ops draw =>
    intro ok k α m M γ t h a w Q hk e F C hQ
    simp only [okCode] at ok
    simp only [acode] at e
    cases draw with
    | true =>
      simp only [if_true] at ok e
      exact DS.sound _ callf L D id ops (k .normal) t h r α m B G U M γ a w Q CS ok e F C hU (fun t' h' e => hk _ _ _ e) fun t' h' α' m' M' γ' a' w' e hd p F' => hQ .normal t' h' α' m' M' γ' a' w' e hd p F'
    | false =>
      simp only [Bool.false_eq_true, if_false] at ok e
      refine wp_region (aops_sound CS hU (fun t' h' e => hk _ _ _ e) ops.toList _ ?_ (fun o ho => List.all_eq_true.1 ok o ho) α m M γ (dropD D t) h a w e F.dropD C fun t' h' α' m' M' γ' a' w' e hd p F' => hQ .normal t' h' α' m' M' γ' a' w' e hd p F')
      apply List.ext_getElem?
      intro i
      simp only [List.getElem?_map]
      rcases Nat.lt_or_ge i ops.size with hi | hi
      · simp [List.getElem?_range hi, hi]
      · rw [List.getElem?_eq_none (by simpa using hi), List.getElem?_eq_none (by simpa using hi)]; rfl
  | seq x y ihx ihy =>
    intro ok k α m M γ t h a w Q hk e F C hQ
    simp only [okCode, Bool.and_eq_true] at ok
    simp only [acode] at e
    refine wp_seq (ihx ok.1 _ α m M γ t h a w _ ?_ e F C fun x2 t' h' α' m' M' γ' a' w' e hd p F' => ?_)
    · intro x2 t' h' e
      cases x2 with
      | normal => obtain ⟨_, _, _, e2, hle⟩ := acode_reach DS CS _ _ _ _ e; exact Nat.le_trans hle (hk _ _ _ e2)
      | exit i => exact hk _ _ _ e
      | ret => exact hk _ _ _ e
    · cases x2 with
      | normal => exact ihy ok.2 k α' m' M' γ' t' h' a' w' Q hk e F' p.rel fun x2 t2 h2 α2 m2 M2 γ2 a2 w2 e2 hd2 p2 F2 => hQ x2 t2 h2 α2 m2 M2 γ2 a2 w2 e2 (hd2.trans hd) (p.trans p2) F2
      | exit i => exact hQ _ t' h' α' m' M' γ' a' w' e hd p F'
      | ret => exact hQ _ t' h' α' m' M' γ' a' w' e hd p F'
  | cond c x y ihx ihy =>
    intro ok k α m M γ t h a w Q hk e F C hQ
    simp only [okCode, Bool.and_eq_true] at ok
    simp only [acode] at e
    split at e
    · rename_i b hb
      have hv := F.ev ok.1.1 a.defers
      rw [hb] at hv
      rw [bcond_eq] at e
      refine wp_cond hv.bool_inv ?_
      split
      · rename_i hbt; simp only [hbt, if_true] at e; rw [hbt] at hb; rw [asaid_eq hb] at e; exact ihx ok.1.2 k α m M γ t h a w Q hk e F C hQ
      · rename_i hbt
        have hbt : b = false := by simpa using hbt
        simp only [hbt] at e; rw [hbt] at hb; rw [asaid_eq hb] at e; exact ihy ok.2 k α m M γ t h a w Q hk e F C hQ
    · simp at e
  | block id b ih =>
    intro ok k α m M γ t h a w Q hk e F C hQ
    simp only [okCode] at ok
    simp only [acode] at e
    refine wp_block (ih ok _ α m M γ t h a w _ ?_ e F C fun x2 t' h' α' m' M' γ' a' w' e hd p F' => ?_)
    · intro x2 t' h' e
      cases x2 with
      | normal => exact hk _ _ _ e
      | exit i =>
        simp only at e
        split at e
        · exact hk _ _ _ e
        · exact hk _ _ _ e
      | ret => exact hk _ _ _ e
    · cases x2 with
      | normal => exact hQ _ t' h' α' m' M' γ' a' w' e hd p F'
      | exit i =>
        simp only at e
        simp only [toExit, Exit.inBlock]
        split at e
        · rename_i hi; simp only [hi, if_true]; exact hQ .normal t' h' α' m' M' γ' a' w' e hd p F'
        · rename_i hi; simp only [hi, if_false]; exact hQ (.exit i) t' h' α' m' M' γ' a' w' e hd p F'
      | ret => exact hQ _ t' h' α' m' M' γ' a' w' e hd p F'
  | loop b ih =>
    intro ok k α m M γ t h a w Q hk e F C hQ
    simp only [okCode] at ok
    simp only [acode] at e
    exact wp_loop_rounds n (aloop_sound (fun k t h e => acode_reach DS CS b k t h e) (ih ok) k hk n α m M γ t h a w Q e F C hQ)
  | exit id => intro _ k α m M γ t h a w Q hk e F C hQ; exact wp_exit (hQ (.exit id) t h α m M γ a w e rfl (Post.refl C) F)
  | ret => intro _ k α m M γ t h a w Q hk e F C hQ; exact wp_ret (hQ .ret t h α m M γ a w e rfl (Post.refl C) F)
  | _ => intro _ k α m M γ t h a w Q hk e; simp [acode] at e

/-! calls -/
theorem loadVar_eq {T : TypeId} {ca : Value} {cv : Value} (k : (Instr.loadAt T ca).run P w = .ok cv w) (hp : ∃ a, ca = .pointer (some a)) : (do loadVar T (← asAddr ca) : Sem Value).run P w = .ok cv w := by
  obtain ⟨a, rfl⟩ := hp
  simpa [Instr.loadAt, asAddr, Instr.sureAddr] using k

def okResult (L D : List Nat) (r : ResultVar) : Bool := match r with
  | .tmp d => !(L.contains d || D.contains d)
  | .cell d _ => !D.contains d
theorem VRel.isPtr {v cv : Value} (hv : VRel α m v cv) {T : TypeId} {u : Value} (k : aload P h T v = some u) : ∃ a, cv = .pointer (some a) := by
  unfold aload at k
  obtain ⟨g, hg, k⟩ := Option.bind_eq_some_iff.1 k
  have : ∃ a, v = .pointer (some a) := by
    split at k
    · obtain ⟨n, hn, k⟩ := Option.bind_eq_some_iff.1 k
      unfold ldN at k; split at k
      · exact ⟨_, rfl⟩
      · simp at k
    · unfold ld1 at k; split at k
      · exact ⟨_, rfl⟩
      · simp at k
  obtain ⟨a, rfl⟩ := this
  exact hv.ptr_inv

def cresult (ct : Array Value) (r : ResultVar) : Sem Value := match r with
  | .tmp t => pure (ct.getD t undef)
  | .cell a t => do loadVar t (← asAddr (ct.getD a undef))
theorem results_eq (fn : Func) (ct : Array Value) : results fn ct = (do let vs ← fn.results.mapM (cresult ct); pure (if h : vs.size = 1 then vs[0] else .tuple vs)) := rfl

theorem aresultL_sound (C : RRel W0 α m B U M h w) (F : FRel α m G M γ L D t ct) : ∀ (rs : List ResultVar) (vs : List Value), aresultL P L h t rs = some vs → (∀ r ∈ rs, okResult L D r = true) →
    ∃ cvs : List Value, (rs.mapM (m := Sem) (cresult ct)).run P w = .ok cvs w ∧ LRel α m vs cvs := by
  intro rs
  induction rs with
  | nil => intro vs e _; simp [aresultL] at e; subst e; exact ⟨[], by simp, LRel.nil _ _⟩
  | cons r rs ih =>
    intro vs e ok
    simp only [aresultL] at e
    obtain ⟨v, hv, e⟩ := Option.bind_eq_some_iff.1 e
    obtain ⟨us, hu, e⟩ := Option.bind_eq_some_iff.1 e
    simp only [Option.some.injEq] at e
    subst e
    obtain ⟨cus, hc, hl⟩ := ih us hu (fun r hr => ok r (List.mem_cons_of_mem _ hr))
    have hok := ok r (by simp)
    have fin : ∀ (s : Sem Value) (cv : Value), s.run P w = .ok cv w → VRel α m v cv → cresult ct r = s → ∃ cvs : List Value, ((r :: rs).mapM (m := Sem) (cresult ct)).run P w = .ok cvs w ∧ LRel α m (v :: us) cvs := fun s cv hs hR heq => by
      refine ⟨cv :: cus, ?_, LRel.cons hR hl⟩
      rw [List.mapM_cons, heq, Sem.run_bind, hs, Result.andThen_ok, Sem.run_bind, hc, Result.andThen_ok, Sem.run_pure]
    cases r with
    | tmp d =>
      simp only [aresult, Option.some.injEq] at hv
      simp only [okResult, Bool.not_eq_true', Bool.or_eq_false_iff] at hok
      have := F.val d hok.1 hok.2
      rw [hv] at this
      exact fin (pure (ct.getD d undef)) _ (Sem.run_pure ..) this rfl
    | cell a ty =>
      simp only [okResult, Bool.not_eq_true'] at hok
      simp only [aresult] at hv
      split at hv
      · rename_i hL
        split at hv
        · rename_i cs hcs
          have hown := F.own hL hcs
          have hload := aloadL_eq (M := M) hv hown.2.2.1
          have hrel : VRel α m (.pointer (some ⟨γ a, 0, none⟩)) (ct.getD a undef) := by rw [hown.2.2.2]; exact .pcell _ _ _ _ hown.2.2.1
          obtain ⟨cv, h1, h2⟩ := aload_sound (h := ghost m M) (B := B) hload C.heap hrel
          exact fin _ cv (loadVar_eq h1 (hrel.isPtr hload)) h2 rfl
        · simp at hv
      · rename_i hL
        have hrel := F.val a (by simpa using hL) hok
        have hload := C.subFull.aload hv
        obtain ⟨cv, h1, h2⟩ := aload_sound (h := full h m) (B := B) hload C.heap hrel
        exact fin _ cv (loadVar_eq h1 (hrel.isPtr hload)) h2 rfl

theorem aresults_sound {fn : Func} {v : Value} (C : RRel W0 α m B U M h w) (F : FRel α m G M γ L D t ct) (e : aresults P L h t fn.results.toList = some v) (ok : fn.results.toList.all (okResult L D) = true) :
    ∃ cv, (results fn ct).run P w = .ok cv w ∧ VRel α m v cv := by
  unfold aresults at e
  obtain ⟨vs, hvs, e⟩ := Option.bind_eq_some_iff.1 e
  obtain ⟨cvs, hc, hl⟩ := aresultL_sound C F _ _ hvs (List.all_eq_true.1 ok)
  have hres : (results fn ct).run P w = .ok (if h : cvs.toArray.size = 1 then cvs.toArray[0] else .tuple cvs.toArray) w := by
    rw [results_eq]
    have : fn.results = fn.results.toList.toArray := by simp
    rw [this, List.mapM_toArray]
    simp only [Sem.run_bind, map_eq_pure_bind, Sem.run_pure]
    refine (congrArg (fun x => (Result.andThen (Result.andThen x _) _)) hc).trans ?_
    rfl
  refine ⟨_, hres, ?_⟩
  have hlen := hl.1
  split at e
  · rename_i u
    simp only [Option.some.injEq] at e
    subst e
    match cvs, hl, hlen with
    | [c], hl, _ => have := hl.getD 0; simpa using this
  · rename_i hne
    simp only [Option.some.injEq] at e
    subst e
    rw [dif_neg]
    · have := VRel.tuple vs.toArray cvs.toArray (by simpa using hlen) hl.to_arr; exact this
    · intro hs
      simp only [List.size_toArray] at hs
      rw [← hlen] at hs
      match vs, hs with
      | [u], _ => exact hne u rfl

structure EnvS (W0 : World) (dk : List Nat → List Nat → Array Oper → Bool) (P : Program) (E : Env) : Prop where
  fn : ∀ f i, E.fn f = some i → P.funcs[f]? = some i.fn ∧ okFunc dk i = true
  ext : ∀ f g, E.ext f = some g → ∀ args h v h', g args h = some (v, h') → h.next ≤ h'.next ∧
    ∀ (α : Corr) (m : Mem) (B U M : Nat) (w : World) (cargs : Array Value), RRel W0 α m B U M h w → h'.next ≤ U → LRel α m args cargs.toList → CallOut W0 P f cargs α m B U M h w v h'

theorem FRel.start {args : List Value} {cargs : Array Value} (ha : LRel α m args cargs.toList) (n : Nat) (M : Nat) (hL : ∀ d, L.contains d = true → args.length ≤ d) (hD : ∀ d, D.contains d = true → args.length ≤ d)
    (hdis : ∀ d, L.contains d = true → D.contains d = false) : FRel α m M M (fun _ => 0) L D (args ++ List.replicate (n - args.length) undef) (cargs ++ Array.replicate (n - cargs.size) undef) := by
  have hlen : args.length = cargs.size := by simpa using ha.1
  have hund : ∀ i, args.length ≤ i → (args ++ List.replicate (n - args.length) undef).getD i undef = undef := fun i hi => by
    rw [List.getD_eq_getElem?_getD, List.getElem?_append_right hi, List.getElem?_replicate]
    split <;> rfl
  refine ⟨by simp [hlen], fun i h1 h2 => ?_, fun i hi => .inl (hund i (hL i hi)), fun i _ hi => .inl (hund i (hD i hi)), fun i j cs ds hi _ _ h1 => ?_, hdis, Nat.le_refl _⟩
  · have : LRel α m (args ++ List.replicate (n - args.length) undef) (cargs ++ Array.replicate (n - cargs.size) undef).toList := by
      simp only [Array.toList_append, Array.toList_replicate, ← hlen]
      refine ha.append ⟨rfl, fun i v hv => ⟨v, hv, ?_⟩⟩
      have := List.mem_of_getElem? hv
      rw [List.mem_replicate] at this
      rw [this.2]; exact VRel.undef _ _
    have := this.getD i
    rw [Array.getD_eq_getD_getElem?, ← Array.getElem?_toList, ← List.getD_eq_getElem?_getD]; exact this
  · rw [hund i (hL i hi)] at h1; simp [undef] at h1

theorem acall_sound (DS : DrawS W0 W dk P) {E : Env} (ES : EnvS W0 dk P E) : ∀ n, CallS W0 P (acall W E P n) := by
  intro n
  induction n with
  | zero => intro f args h v h' e; simp [acall] at e
  | succ n ih =>
    intro f args h v h' e
    simp only [acall] at e
    split at e
    · rename_i g hg; exact ES.ext f g hg _ _ _ _ e
    · split at e
      · rename_i i hi
        obtain ⟨hf, hok⟩ := ES.fn f i hi
        split at e
        · rename_i c hc
          simp only [okFunc, Bool.and_eq_true, hc] at hok
          obtain ⟨⟨⟨hname, hdis⟩, hres⟩, hcode⟩ := hok
          split at e
          · rename_i hargs
            simp only [Bool.and_eq_true, List.all_eq_true, Nat.ble_eq] at hargs
            have hfin : ∀ (e : AEx) (t' : List Value) (h2 : St), (match e with
                | .normal => obind (aresults P i.L h2 t' i.fn.results.toList) fun v => some (v, h2)
                | .ret => obind (aresults P i.L h2 t' i.fn.results.toList) fun v => some (v, h2)
                | .exit _ => none) = some (v, h') → aresults P i.L h2 t' i.fn.results.toList = some v ∧ h2 = h' ∧ (e = .normal ∨ e = .ret) := fun e t' h2 k => by
              cases e with
              | exit => simp at k
              | normal => obtain ⟨u, hu, k⟩ := Option.bind_eq_some_iff.1 k; simp only [Option.some.injEq, Prod.mk.injEq] at k; exact ⟨by rw [hu, k.1], k.2, .inl rfl⟩
              | ret => obtain ⟨u, hu, k⟩ := Option.bind_eq_some_iff.1 k; simp only [Option.some.injEq, Prod.mk.injEq] at k; exact ⟨by rw [hu, k.1], k.2, .inr rfl⟩
            constructor
            · obtain ⟨x, t', h2, e, hle⟩ := acode_reach DS ih _ _ _ _ e
              obtain ⟨_, rfl, _⟩ := hfin x t' h2 e
              exact hle
            · intro α m B U M w cargs C hN ha
              right
              constructor
              · have hb : i.fn.body.isNone = false := by rw [hc]; rfl
                have hn : (i.fn.name == "runtime.NumGoroutine") = false := by simpa using hname
                have hn' : i.fn.name ≠ "runtime.NumGoroutine" := by simpa using hname
                simp [callFunc, hf, hn', hc]
              · refine calls_of_wp hf hc ?_
                have F := FRel.start (α := α) (m := m) (L := i.L) (D := i.D) ha i.fn.ntmps M (fun d hd => hargs.1 d (by simpa using hd)) (fun d hd => hargs.2 d (by simpa using hd)) (fun d hd => by
                  have := List.all_eq_true.1 hdis d (by simpa using hd); simpa using this)
                refine acode_sound DS ih C.UM c hcode _ α m M _ _ h _ w _ ?_ e F C fun x t' h2 α' m' M' γ' a' w' e hd p F' => ?_
                · intro x t' h2 e; obtain ⟨_, rfl, _⟩ := hfin x t' h2 e; exact hN
                · obtain ⟨hv, rfl, hx⟩ := hfin x t' h2 e
                  obtain ⟨cv, hcv, hR⟩ := aresults_sound (P := P) (w := w') p.rel F' hv hres
                  have : a'.defers = [] ∧ ∃ v, (results i.fn a'.tmps).run P w' = .ok v w' ∧ ∃ cv α' m' M', Ending.returned v = .returned cv ∧ VRel α' m' _ cv ∧ Post W0 B M U α m M h w α' m' M' h2 w' := ⟨hd, cv, hcv, cv, α', m', M', rfl, hR, p⟩
                  rcases hx with rfl | rfl
                  · exact this
                  · exact this
          · simp at e
        · simp at e
      · simp at e

end
end Go.Am
