/- Regions that draw their order: the evaluator, what its text must be like, soundness. -/
import Derived.Test.YtgpeieohdelniaaGreatDoorAmDraw3
namespace Go.Am
open Go Go.RowKit

/-! by the text -/
def dE (ops : Array Oper) (i : Nat) : List Nat := match ops[i]? with
  | some o => (o.after.toList.filter (Region.binds .any)).map (·.on)
  | none => []
def addN (l acc : List Nat) : List Nat := l.foldl (fun a x => if a.contains x then a else x :: a) acc
/-- What must stand ahead of each operation, of the first m. -/
def dPm (ops : Array Oper) : Nat → List (List Nat)
  | 0 => []
  | m + 1 => let acc := dPm ops m; acc ++ [(dE ops m).foldl (fun a k => addN (acc.getD k []) a) (addN (dE ops m) [])]
def dOp (ops : Array Oper) (i : Nat) : Oper := ops.toList.getD i default
structure DInfo where
  L : List Nat
  D : List Nat
  ops : Array Oper
  P : Program
  pm : List (List Nat)
def DInfo.b (d : DInfo) : Nat → Option Nat := baseOf d.L d.D d.ops.toList 20
def DInfo.W (d : DInfo) (i : Nat) : List Nat := wr d.L d.D d.b (dOp d.ops i)
def DInfo.R (d : DInfo) (i : Nat) : List Nat := rd d.L d.D d.b d.ops (dOp d.ops i)
def DInfo.K (d : DInfo) (i : Nat) : Nat := hk d.P d.L d.D (dOp d.ops i)
def DInfo.pmAt (d : DInfo) (i : Nat) : List Nat := d.pm.getD i []
/-- A call that stands behind no order with an operation that reads the heap: it is run blind. -/
def DInfo.bl (d : DInfo) (i : Nat) : Bool := isCall (dOp d.ops i) && (List.range i).any fun x => d.K x == 1 && !(d.pmAt i).contains x
def dInfo (P : Program) (L D : List Nat) (ops : Array Oper) : DInfo := ⟨L, D, ops, P, dPm ops ops.size⟩
def DInfo.pairOk (d : DInfo) (x y : Nat) : Bool :=
  ((d.W x).all fun s => !(d.R y ++ d.W y).contains s) && ((d.W y).all fun s => !(d.R x).contains s) &&
  (d.K x == 0 || d.K y == 0 || (d.K x == 1 && (d.K y == 1 || (d.K y == 2 && d.bl y))))
def DInfo.ok (d : DInfo) : Bool :=
  (d.ops.toList.all (okG d.L d.D d.ops)) && (d.ops.toList.all (okB d.L d.D d.b)) &&
  ((List.range d.ops.size).all fun i => (dE d.ops i).all fun j => Nat.blt j i) &&
  ((List.range d.ops.size).all fun i => (d.pmAt i).all fun j => (dE d.ops i).contains j || (dE d.ops i).any fun k => (d.pmAt k).contains j) &&
  Nat.ble d.pm.length d.ops.size &&
  ((List.range d.ops.size).all fun y => (List.range y).all fun x => (d.pmAt y).contains x || d.pairOk x y)
/-- What is asked of a region that draws its order. -/
def drawOk (P : Program) (L D : List Nat) (ops : Array Oper) : Bool := (dInfo P L D ops).ok

/-! the evaluator -/
section
variable {R : Type}
def adops (d : DInfo) (callf : FuncId → AFn) (P : Program) (k : List Value → St → Option R) : List Oper → Nat → List Value → St → Option R
  | [], _, t, h => k t h
  | o :: os, i, t, h => aops (bcond (d.bl i) (blindf callf) callf) P d.L d.D d.ops (fun t h => adops d callf P k os (i + 1) t h) [o] t h
end
def adraw : Drawer := fun _ callf P L D ops k t h => adops (dInfo P L D ops) callf P k ops.toList 0 (dropD D t) h

section
variable {R : Type} {P : Program} {α α' α'' : Corr} {m m' m'' : Mem} {B G U M M' M'' : Nat} {h h' h'' g : St} {W0 w w' w'' : World}
variable {γ : Nat → Nat} {L D : List Nat} {t u : List Value} {ct : Array Value} {callf : FuncId → AFn} {o : Oper} {ops : Array Oper}

theorem aops_one {k : List Value → St → Option R} : aops callf P L D ops k [o] t h = if awanted ops t o then astep callf P L D h t o k else k (aput t o.dst undef) h := by
  rw [aops_cons]; rfl

/-- A step, or none where the operation isn't wanted. -/
def CStep (callf : FuncId → AFn) (P : Program) (L D : List Nat) (ops : Array Oper) (h : St) (t : List Value) (o : Oper) (t' : List Value) (h' : St) : Prop :=
  (awanted ops t o = true ∧ StepIs callf P L D h t o t' h') ∨ (awanted ops t o = false ∧ t' = aput t o.dst undef ∧ h' = h)

theorem CStep.of {k : List Value → St → Option R} {r : R} (e : aops callf P L D ops k [o] t h = some r) : ∃ t' h', CStep callf P L D ops h t o t' h' ∧ k t' h' = some r := by
  rw [aops_one] at e
  split at e
  · rename_i hw; obtain ⟨t', h', hs, e⟩ := astep_is e; exact ⟨t', h', .inl ⟨hw, hs⟩, e⟩
  · rename_i hw; exact ⟨_, _, .inr ⟨by simpa using hw, rfl, rfl⟩, e⟩
theorem CStep.reach (CS : CallS W0 P callf) {t' : List Value} (e : CStep callf P L D ops h t o t' h') : h.next ≤ h'.next ∧ t'.length = t.length := by
  rcases e with ⟨_, e⟩ | ⟨_, rfl, rfl⟩
  · exact e.reach CS
  · exact ⟨Nat.le_refl _, aput_length _ _ _⟩

def dcf (d : DInfo) (callf : FuncId → AFn) (i : Nat) : FuncId → AFn := bcond (d.bl i) (blindf callf) callf
theorem dcf_sound (CS : CallS W0 P callf) (d : DInfo) (i : Nat) : CallS W0 P (dcf d callf i) := by
  unfold dcf; rw [bcond_eq]; split
  · exact CS.blind
  · exact CS

/-- The text's own order. -/
theorem adops_run {d : DInfo} {k : List Value → St → Option R} {r : R} : ∀ (os : List Oper) (i : Nat) (t : List Value) (h : St), (∀ j, os[j]? = d.ops.toList[i + j]?) → adops d callf P k os i t h = some r →
    ∃ (tt : Nat → List Value) (hh : Nat → St), tt i = t ∧ hh i = h ∧ k (tt (i + os.length)) (hh (i + os.length)) = some r ∧
      ∀ j, i ≤ j → j < i + os.length → CStep (dcf d callf j) P d.L d.D d.ops (hh j) (tt j) (dOp d.ops j) (tt (j + 1)) (hh (j + 1)) := by
  intro os
  induction os with
  | nil => intro i t h _ e; exact ⟨fun _ => t, fun _ => h, rfl, rfl, e, fun j h1 h2 => by simp at h2; omega⟩
  | cons o os ih =>
    intro i t h ho e
    simp only [adops] at e
    obtain ⟨t', h', hs, e⟩ := CStep.of e
    obtain ⟨tt, hh, e1, e2, e3, e4⟩ := ih (i + 1) t' h' (fun j => by have := ho (j + 1); simp at this ⊢; rw [this]; congr 1; omega) e
    have hoi : dOp d.ops i = o := by
      have := ho 0
      simp only [List.getElem?_cons_zero, Nat.add_zero] at this
      rw [dOp, List.getD_eq_getElem?_getD, ← this]; rfl
    refine ⟨fun j => if j = i then t else tt j, fun j => if j = i then h else hh j, by simp, by simp, ?_, fun j h1 h2 => ?_⟩
    · have hne : i + (o :: os).length ≠ i := by simp
      have he : i + (o :: os).length = i + 1 + os.length := by simp; omega
      simp only [if_neg hne]
      rw [he]; exact e3
    · by_cases hj : j = i
      · subst hj
        have hne : j + 1 ≠ j := by omega
        simp only [if_true, if_neg hne]
        rw [e1, e2, hoi]; exact hs
      · have hne : j + 1 ≠ i := by omega
        simp only [if_neg hj, if_neg hne]
        exact e4 j (by omega) (by simp at h2; omega)

theorem adops_reach {d : DInfo} (CS : CallS W0 P callf) {k : List Value → St → Option R} {r : R} : ∀ (os : List Oper) (i : Nat) (t : List Value) (h : St), adops d callf P k os i t h = some r → ∃ t' h', k t' h' = some r ∧ h.next ≤ h'.next := by
  intro os
  induction os with
  | nil => intro i t h e; exact ⟨t, h, e, Nat.le_refl _⟩
  | cons o os ih =>
    intro i t h e
    simp only [adops] at e
    obtain ⟨t', h', hs, e⟩ := CStep.of e
    obtain ⟨t2, h2, e2, hle⟩ := ih _ _ _ e
    exact ⟨t2, h2, e2, Nat.le_trans (hs.reach (dcf_sound CS d i)).1 hle⟩

/-! the frame without what points into its variables -/
theorem dropD_binv (b : Nat → Option Nat) (t : List Value) : BInv D b (dropD D t) := fun s hs r o e => by
  rw [dropD_val, if_pos (by simpa using hs)] at e; simp [undef] at e

theorem awanted_on {t u : List Value} (hg : ∀ s ∈ o.looksAt ops, u.getD s undef = t.getD s undef) : awanted ops u o = awanted ops t o := by
  unfold awanted
  cases hgd : o.guard with
  | none => rfl
  | some p =>
    obtain ⟨j, want⟩ := p
    simp only
    cases hs : gslot ops j with
    | none => rfl
    | some d =>
      have : d ∈ o.looksAt ops := by
        unfold Oper.looksAt
        refine List.mem_append_right _ ?_
        have hs' : (ops[j]?).bind (·.dst) = some d := hs
        simp [hgd, hs']
      simp only [hg d this]

theorem dst_wr {b : Nat → Option Nat} {d : Nat} (hd : o.dst = some d) : d ∈ wr L D b o := by
  unfold wr
  split
  · simp [hd]
  · simp [hd]
  · split <;> simp [hd]
  · simp [hd]

theorem list_ext_getD {t u : List Value} (hl : u.length = t.length) (h : ∀ s, u.getD s undef = t.getD s undef) : u = t := by
  apply List.ext_getElem hl
  intro i h1 h2
  have := h i
  rw [List.getD_eq_getElem?_getD, List.getD_eq_getElem?_getD, List.getElem?_eq_getElem h1, List.getElem?_eq_getElem h2] at this
  simpa using this

structure DOk (d : DInfo) : Prop where
  g : ∀ i, i < d.ops.size → okG d.L d.D d.ops (dOp d.ops i) = true
  b : ∀ i, i < d.ops.size → okB d.L d.D d.b (dOp d.ops i) = true
  net : Net d.ops.size (dE d.ops) d.pmAt d.W d.R d.K d.bl

theorem dOp_mem {ops : Array Oper} {i : Nat} (h : i < ops.size) : dOp ops i ∈ ops.toList := by
  have h' : i < ops.toList.length := by simpa using h
  rw [dOp, List.getD_eq_getElem?_getD, List.getElem?_eq_getElem h']; exact List.getElem_mem h'
theorem dOp_get {ops : Array Oper} {i : Nat} (h : i < ops.size) : ops[i]? = some (dOp ops i) := by
  have h' : i < ops.toList.length := by simpa using h
  rw [dOp, List.getD_eq_getElem?_getD, ← Array.getElem?_toList, List.getElem?_eq_getElem h']; rfl

theorem DInfo.ok_spec {d : DInfo} (h : d.ok = true) : DOk d := by
  unfold DInfo.ok at h
  simp only [Bool.and_eq_true, List.all_eq_true, List.mem_range, Nat.ble_eq] at h
  obtain ⟨⟨⟨⟨⟨h1, h2⟩, h3⟩, h4⟩, h5⟩, h6⟩ := h
  refine ⟨fun i hi => h1 _ (dOp_mem hi), fun i hi => h2 _ (dOp_mem hi), fun i j hj => ?_, fun i j hj => ?_, fun x y hxy hy => ?_⟩
  · rcases Nat.lt_or_ge i d.ops.size with hi | hi
    · have := h3 i hi j hj; simp only [Nat.blt, Nat.ble_eq] at this; omega
    · simp [dE, Array.getElem?_eq_none hi] at hj
  · rcases Nat.lt_or_ge i d.ops.size with hi | hi
    · have := h4 i hi j hj
      simp only [Bool.or_eq_true, List.any_eq_true] at this
      rcases this with h | ⟨k, hk, h⟩
      · exact .inl (by simpa using h)
      · exact .inr ⟨k, hk, by simpa using h⟩
    · simp only [DInfo.pmAt, List.getD_eq_getElem?_getD, List.getElem?_eq_none (show d.pm.length ≤ i by omega)] at hj; simp at hj
  · have := h6 y hy x hxy
    rw [Bool.or_eq_true] at this
    rcases this with h | h
    · exact .inl (by simpa using h)
    · right
      unfold DInfo.pairOk at h
      simp only [Bool.and_eq_true, List.all_eq_true, Bool.or_eq_true, beq_iff_eq] at h
      obtain ⟨⟨p1, p2⟩, p3⟩ := h
      refine ⟨fun s hs hm => ?_, fun s hs hm => ?_, ?_⟩
      · have := p1 s hs; simp at this; simp at hm; rcases hm with hm | hm
        · exact this.1 hm
        · exact this.2 hm
      · have := p2 s hs; simp at this; exact this hm
      · rcases p3 with (p3 | p3) | p3
        · exact .inl p3
        · exact .inr (.inl p3)
        · exact .inr (.inr p3)

theorem baseOf_L (d : DInfo) : ∀ s, d.L.contains s = true → d.b s = some s := fun s hs => by
  show (if d.L.contains s = true then some s else _) = some s
  rw [if_pos hs]

theorem skip_alike {b : Nat → Option Nat} (hG : okG L D ops o = true) (hw : awanted ops t o = false) (hon : On (rd L D b ops o ++ wr L D b o) t u) (hlen : u.length = t.length) :
    awanted ops u o = false ∧ On (wr L D b o) (aput t o.dst undef) (aput u o.dst undef) ∧ Off (wr L D b o) u (aput u o.dst undef) ∧ Off (wr L D b o) t (aput t o.dst undef) :=
  ⟨by rw [awanted_on (t := t) fun s hs => hon s (List.mem_append_left _ (List.mem_append_left _ hs))]; exact hw, aput_on hlen _ _ (hon.mono fun s hs => List.mem_append_right _ hs),
   aput_off _ _ _ fun d hd => dst_wr hd, aput_off _ _ _ fun d hd => dst_wr hd⟩

/-- The text's order: what each operation leaves. -/
theorem canon_of {d : DInfo} (ok : DOk d) (CS : CallS W0 P callf) (hP : d.P = P) (hdis : ∀ s, d.L.contains s = true → d.D.contains s = false) {tt : Nat → List Value} {hh : Nat → St} (h0 : BInv d.D d.b (tt 0))
    (hc : ∀ j, j < d.ops.size → CStep (dcf d callf j) P d.L d.D d.ops (hh j) (tt j) (dOp d.ops j) (tt (j + 1)) (hh (j + 1))) :
    (∀ i, i ≤ d.ops.size → BInv d.D d.b (tt i) ∧ (tt i).length = (tt 0).length) ∧ Canon d.ops.size d.W d.K d.bl tt hh := by
  have hbL : ∀ s, d.L.contains s = true → d.b s = some s := baseOf_L d
  have inv : ∀ i, i ≤ d.ops.size → BInv d.D d.b (tt i) ∧ (tt i).length = (tt 0).length := by
    intro i
    induction i with
    | zero => intro _; exact ⟨h0, rfl⟩
    | succ i ih =>
      intro hi
      obtain ⟨h1, h2⟩ := ih (by omega)
      have hs := hc i (by omega)
      refine ⟨?_, (hs.reach (dcf_sound CS d i)).2.trans h2⟩
      rcases hs with ⟨_, hs⟩ | ⟨_, hs, _⟩
      · have hg := ok.g i (by omega)
        unfold okG at hg; rw [Bool.and_eq_true] at hg
        obtain ⟨u', hA⟩ := hs.alike (ops := d.ops) (u := tt i) hg.1 (ok.b i (by omega)) hbL hdis (fun s _ => rfl) h1 h1 rfl
        exact hA.inv
      · rw [hs]; exact aput_binv h1 _ fun _ _ _ r o hv => by simp [undef] at hv
  refine ⟨inv, ⟨fun i hi => ?_, fun i hi hk => ?_, fun i hi hb => ?_⟩⟩
  · rcases hc i hi with ⟨_, hs⟩ | ⟨_, hs, _⟩
    · have hg := ok.g i hi
      unfold okG at hg; rw [Bool.and_eq_true] at hg
      have h1 := (inv i (by omega)).1
      obtain ⟨u', hA⟩ := hs.alike (ops := d.ops) (u := tt i) hg.1 (ok.b i hi) hbL hdis (fun s _ => rfl) h1 h1 rfl
      exact hA.offT
    · rw [hs]; exact aput_off _ _ _ fun d hd => dst_wr hd
  · rcases hc i hi with ⟨_, hs⟩ | ⟨_, _, hs⟩
    · have hle : d.K i = 0 ∨ d.K i = 1 ∨ d.K i = 2 := by
        unfold DInfo.K Go.Am.hk
        repeat' split
        all_goals simp
      rcases hle with h | h | h
      · exact (hs.pure (by rw [← hP]; exact h)).1
      · exact (hs.read (by rw [← hP]; exact h)).1
      · exact absurd h hk
    · exact hs
  · rcases hc i hi with ⟨_, hs⟩ | ⟨_, _, hs⟩
    · have hcall : isCall (dOp d.ops i) = true := by unfold DInfo.bl at hb; rw [Bool.and_eq_true] at hb; exact hb.1
      have : dcf d callf i = blindf callf := by unfold dcf; rw [hb]; rfl
      rw [this] at hs
      exact hs.blindInc hcall
    · rw [hs]; exact Inc.refl _

theorem hk_le (P : Program) (L D : List Nat) (o : Oper) : hk P L D o = 0 ∨ hk P L D o = 1 ∨ hk P L D o = 2 := by
  unfold hk
  repeat' split
  all_goals simp

/-- A step at any set of operations that are done. -/
theorem step_at {d : DInfo} (ok : DOk d) (CS : CallS W0 P callf) (hP : d.P = P) (hdis : ∀ s, d.L.contains s = true → d.D.contains s = false) {tt : Nat → List Value} {hh : Nat → St}
    (hinv : ∀ i, i ≤ d.ops.size → BInv d.D d.b (tt i) ∧ (tt i).length = (tt 0).length) (C : Canon d.ops.size d.W d.K d.bl tt hh)
    (hc : ∀ j, j < d.ops.size → CStep (dcf d callf j) P d.L d.D d.ops (hh j) (tt j) (dOp d.ops j) (tt (j + 1)) (hh (j + 1)))
    {S : Nat → Bool} {i : Nat} (dn : Down d.ops.size (dE d.ops) S) (r : ReadyAt d.ops.size (dE d.ops) S i) (hu : ∀ s, u.getD s undef = valAt S d.W tt s d.ops.size) (hlen : u.length = (tt 0).length) :
    ∃ u', CStep (dcf d callf i) P d.L d.D d.ops (hAt S d.K hh d.ops.size) u (dOp d.ops i) u' (hAt (put S i) d.K hh d.ops.size) ∧ (∀ s, u'.getD s undef = valAt (put S i) d.W tt s d.ops.size) ∧ u'.length = (tt 0).length := by
  have hbL : ∀ s, d.L.contains s = true → d.b s = some s := baseOf_L d
  have hlt := r.lt
  have hg := ok.g i hlt
  have hg' := hg
  unfold okG at hg'; rw [Bool.and_eq_true] at hg'
  have hli := (hinv i (by omega)).2
  have hon : On (rd d.L d.D d.b d.ops (dOp d.ops i) ++ wr d.L d.D d.b (dOp d.ops i)) (tt i) u := fun s hs => by
    rw [hu s, ok.net.val C dn r hs d.ops.size (Nat.le_refl _), Nat.min_eq_right (by omega)]
  have hBu : BInv d.D d.b u := fun s hs q p e => by
    rw [hu s] at e
    obtain ⟨k, hk, hv⟩ := valAt_some (Wr := d.W) (tt := tt) S s d.ops.size
    rw [hv] at e
    exact (hinv k hk).1 s hs q p e
  have hlt' : u.length = (tt i).length := hlen.trans hli.symm
  -- what the new frame must be
  have fin : ∀ u', On (wr d.L d.D d.b (dOp d.ops i)) (tt (i + 1)) u' → Off (wr d.L d.D d.b (dOp d.ops i)) u u' → ∀ s, u'.getD s undef = valAt (put S i) d.W tt s d.ops.size := fun u' h1 h2 s => by
    obtain ⟨v1, v2⟩ := ok.net.valPut dn r (tt := tt) s d.ops.size (Nat.le_refl _)
    by_cases hs : s ∈ d.W i
    · rw [v2 hs hlt]; exact h1 s hs
    · rw [v1 hs, ← hu s]; exact h2 s hs
  obtain ⟨p1, p2⟩ := ok.net.hPut dn r (hh := hh) d.ops.size (Nat.le_refl _)
  have hw := awanted_on (ops := d.ops) (o := dOp d.ops i) (t := tt i) (u := u) fun s hs => hon s (List.mem_append_left _ (List.mem_append_left _ hs))
  rcases hc i hlt with ⟨hwt, hs⟩ | ⟨hwt, hs, hsh⟩
  · obtain ⟨u', hA⟩ := hs.alike (ops := d.ops) (u := u) hg'.1 (ok.b i hlt) hbL hdis hon (hinv i (by omega)).1 hBu hlt'
    refine ⟨u', .inl ⟨hw.trans hwt, ?_⟩, fin u' hA.on hA.off, hA.len.trans hlen⟩
    rcases hk_le d.P d.L d.D (dOp d.ops i) with hk | hk | hk
    · rw [p1 (by unfold DInfo.K; omega)]
      exact (hA.step.pure (by rw [← hP]; exact hk)).2 _
    · rw [p1 (by unfold DInfo.K; omega)]
      exact (hA.step.read (by rw [← hP]; exact hk)).2 _ ((ok.net.heap1 C dn r hk d.ops.size (Nat.le_refl _)).2 (by omega))
    · have := ok.net.heap2 C dn r hk d.ops.size (Nat.le_refl _)
      rw [Nat.min_eq_right (by omega)] at this
      rw [p2 hk hlt, this]; exact hA.step
  · obtain ⟨q1, q2, q3, _⟩ := skip_alike (b := d.b) (u := u) hg hwt hon hlt'
    refine ⟨aput u (dOp d.ops i).dst undef, .inr ⟨q1, rfl, ?_⟩, fin _ (by rw [hs]; exact q2) q3, (aput_length _ _ _).trans hlen⟩
    by_cases hk : d.K i = 2
    · have := ok.net.heap2 C dn r hk d.ops.size (Nat.le_refl _)
      rw [Nat.min_eq_right (by omega)] at this
      rw [p2 hk hlt, this, hsh]
    · exact p1 hk

def listedS (listed : Array Bool) : Nat → Bool := fun j => listed.getD j false
theorem ready_at {d : DInfo} {listed : Array Bool} (hl : listed.size = d.ops.size) {i : Nat} (h : i ∈ Region.ready .any d.ops listed) : ReadyAt d.ops.size (dE d.ops) (listedS listed) i := by
  rw [mem_ready] at h
  obtain ⟨h0, o, ho, hall⟩ := h
  have hlt : i < d.ops.size := (Array.getElem?_eq_some_iff.1 ho).1
  refine ⟨hlt, ?_, fun j hj => ?_⟩
  · simp only [listedS]; rw [Array.getD_eq_getD_getElem?] at h0 ⊢
    rw [Array.getElem?_eq_getElem (by omega)] at h0 ⊢; exact h0
  · simp only [dE, ho, List.mem_map, List.mem_filter] at hj
    obtain ⟨e, ⟨he, hb⟩, rfl⟩ := hj
    exact hall e (by simpa using he) hb
theorem ready_nil {d : DInfo} (ok : DOk d) {listed : Array Bool} (hl : listed.size = d.ops.size) (h : Region.ready .any d.ops listed = []) : ∀ j, j < d.ops.size → listedS listed j = true := by
  intro j
  induction j using Nat.strongRecOn with
  | _ j ih =>
    intro hj
    cases hS : listedS listed j with
    | true => rfl
    | false =>
      exfalso
      have : j ∈ Region.ready .any d.ops listed := by
        rw [mem_ready]
        refine ⟨?_, dOp d.ops j, dOp_get hj, fun e he hb => ?_⟩
        · simp only [listedS] at hS; rw [Array.getD_eq_getD_getElem?] at hS ⊢
          rw [Array.getElem?_eq_getElem (by omega)] at hS ⊢; exact hS
        · have hmem : e.on ∈ dE d.ops j := by
            simp only [dE, dOp_get hj, List.mem_map, List.mem_filter]
            exact ⟨e, ⟨by simpa using he, hb⟩, rfl⟩
          have hlt := ok.net.low j _ hmem
          exact ih _ hlt (by omega)
      rw [h] at this; simp at this
theorem listed_put {listed : Array Bool} {i : Nat} (hi : i < listed.size) : listedS (listed.setIfInBounds i true) = put (listedS listed) i := by
  funext j
  simp only [listedS, put, Array.getD_eq_getD_getElem?, Array.getElem?_setIfInBounds]
  by_cases h : i = j
  · subst h; simp [hi]
  · have : (j == i) = false := by simp; exact fun e => h e.symm
    simp [h, this]

theorem left_zero' {S : Nat → Bool} {i n : Nat} (hi : i < n) (h : S i = false) : left S n ≠ 0 := fun e => by
  rw [left_zero n e i hi] at h; simp at h

theorem draw_any {d : DInfo} (ok : DOk d) (CS : CallS W0 P callf) (hP : d.P = P) (hdis : ∀ s, d.L.contains s = true → d.D.contains s = false) {tt : Nat → List Value} {hh : Nat → St}
    (hinv : ∀ i, i ≤ d.ops.size → BInv d.D d.b (tt i) ∧ (tt i).length = (tt 0).length) (C : Canon d.ops.size d.W d.K d.bl tt hh)
    (hc : ∀ j, j < d.ops.size → CStep (dcf d callf j) P d.L d.D d.ops (hh j) (tt j) (dOp d.ops j) (tt (j + 1)) (hh (j + 1)))
    (hU : U ≤ G) (hN : ∀ k, k ≤ d.ops.size → (hh k).next ≤ U) {Q : Exit → Act → World → Prop} {ds : List Deferred} {h0 : St} {w0 : World} {α0 : Corr} {m0 : Mem} {M0 : Nat}
    (hQ : ∀ (α' : Corr) (m' : Mem) (M' : Nat) (γ' : Nat → Nat) (a' : Act) (w' : World), a'.defers = ds → Post W0 B G U α0 m0 M0 h0 w0 α' m' M' (hh d.ops.size) w' → FRel α' m' G M' γ' d.L d.D (tt d.ops.size) a'.tmps → Q .normal a' w') :
    ∀ (fuel : Nat) (listed : Array Bool) (α : Corr) (m : Mem) (M : Nat) (γ : Nat → Nat) (u : List Value) (a : Act) (w : World), listed.size = d.ops.size → left (listedS listed) d.ops.size ≤ fuel → Down d.ops.size (dE d.ops) (listedS listed) →
      (∀ s, u.getD s undef = valAt (listedS listed) d.W tt s d.ops.size) → u.length = (tt 0).length → FRel α m G M γ d.L d.D u a.tmps → a.defers = ds →
      Post W0 B G U α0 m0 M0 h0 w0 α m M (hAt (listedS listed) d.K hh d.ops.size) w → wpAny P .any d.ops Q fuel listed a w := by
  intro fuel
  have done : ∀ (listed : Array Bool) (α : Corr) (m : Mem) (M : Nat) (γ : Nat → Nat) (u : List Value) (a : Act) (w : World), (∀ j, j < d.ops.size → listedS listed j = true) →
      (∀ s, u.getD s undef = valAt (listedS listed) d.W tt s d.ops.size) → u.length = (tt 0).length → FRel α m G M γ d.L d.D u a.tmps → a.defers = ds →
      Post W0 B G U α0 m0 M0 h0 w0 α m M (hAt (listedS listed) d.K hh d.ops.size) w → Q .normal a w := by
    intro listed α m M γ u a w hall hu hlen F hd p
    have e1 : u = tt d.ops.size := list_ext_getD (hlen.trans (hinv _ (Nat.le_refl _)).2.symm) fun s => by rw [hu s, C.valAll hall s _ (Nat.le_refl _)]
    rw [C.hAll hall _ (Nat.le_refl _)] at p
    rw [e1] at F
    exact hQ α m M γ a w hd p F
  induction fuel with
  | zero =>
    intro listed α m M γ u a w hls hleft dn hu hlen F hd p
    have hall := left_zero d.ops.size (show left (listedS listed) d.ops.size = 0 by omega)
    refine ⟨?_, done listed α m M γ u a w hall hu hlen F hd p⟩
    cases hr : Region.ready .any d.ops listed with
    | nil => rfl
    | cons x xs =>
      have r := ready_at hls (show x ∈ Region.ready .any d.ops listed by rw [hr]; simp)
      have := hall x r.lt
      rw [r.out] at this; simp at this
  | succ fuel ih =>
    intro listed α m M γ u a w hls hleft dn hu hlen F hd p
    refine ⟨fun hr => done listed α m M γ u a w (ready_nil ok hls hr) hu hlen F hd p, fun i hi => ?_⟩
    have r := ready_at hls hi
    have hlt := r.lt
    have hg := ok.g i hlt
    have hg' := hg
    unfold okG at hg'; rw [Bool.and_eq_true] at hg'
    have eS := listed_put (listed := listed) (i := i) (by omega)
    have hleft' : left (listedS (listed.setIfInBounds i true)) d.ops.size ≤ fuel := by
      have := left_put (S := listedS listed) r.out d.ops.size
      rw [if_pos hlt] at this
      rw [eS]; omega
    obtain ⟨u', hs, hu', hlen'⟩ := step_at ok CS hP hdis hinv C hc dn r hu hlen
    have hw := wanted_eq (ops := d.ops) (a := a) hg'.1 F
    unfold wpOp
    simp only [dOp_get hlt]
    rw [hw]
    have next : ∀ (α' : Corr) (m' : Mem) (M' : Nat) (γ' : Nat → Nat) (w' : World) (cv : Value), Post W0 B G U α m M (hAt (listedS listed) d.K hh d.ops.size) w α' m' M' (hAt (put (listedS listed) i) d.K hh d.ops.size) w' →
        FRel α' m' G M' γ' d.L d.D u' (a.put (dOp d.ops i).dst cv).tmps → wpAny P .any d.ops Q fuel (listed.setIfInBounds i true) (a.put (dOp d.ops i).dst cv) w' := fun α' m' M' γ' w' cv p' F' => by
      refine ih (listed.setIfInBounds i true) α' m' M' γ' u' _ w' (by simpa using hls) hleft' (by rw [eS]; exact dn.put r) (by rw [eS]; exact hu') hlen' F' ((Act.put_defers' _ _ _).trans hd) ?_
      rw [eS]; exact p.trans p'
    rcases hs with ⟨hwt, hs⟩ | ⟨hwt, hs, hsh⟩
    · rw [hwt]
      simp only [if_true]
      left
      obtain ⟨k, hk, hkk⟩ := hAt_some (K := d.K) (hh := hh) (put (listedS listed) i) d.ops.size
      exact hs.sound (dcf_sound CS d i) hg'.1 F p.rel hU (by rw [hkk]; exact hN k hk) _ _ next
    · rw [hwt]
      simp only [Bool.false_eq_true, if_false]
      refine next α m M γ w undef (by rw [hsh]; exact Post.refl p.rel) ?_
      rw [hs]
      refine F.skip fun dd hdd => ?_
      have := hg'.2
      cases hgd : (dOp d.ops i).guard with
      | none => simp [awanted, hgd] at hwt
      | some q => simp only [hgd, hdd] at this; simpa using this

theorem HRel.drew (H : HRel α m B w) (w' : World) (hw : w'.heap = w.heap) : HRel α m B w' :=
  ⟨fun id o k => by have := H.obj id o k; cases o <;> simpa only [ORel, hw] using this, H.sep, by rw [hw]; exact H.low⟩

theorem adraw_sound (hm : P.follows .mixedOrders = true) : DrawS W0 adraw (drawOk P) P := by
  refine ⟨fun R callf L D ops k t h r CS e => ?_, fun R callf L D id ops k t h r α m B G U M γ a w Q CS hok e F C hU hk hQ => ?_⟩
  · exact adops_reach CS _ _ _ _ e
  · have ok : DOk (dInfo P L D ops) := DInfo.ok_spec hok
    obtain ⟨tt, hh, e1, e2, e3, e4⟩ := adops_run (callf := callf) (P := P) (d := dInfo P L D ops) ops.toList 0 (dropD D t) h (fun j => by simp [dInfo]) e
    have hsz : 0 + ops.toList.length = ops.size := by simp
    rw [hsz] at e3 e4
    have hc : ∀ j, j < ops.size → CStep (dcf (dInfo P L D ops) callf j) P L D ops (hh j) (tt j) (dOp ops j) (tt (j + 1)) (hh (j + 1)) := fun j hj => e4 j (Nat.zero_le _) hj
    obtain ⟨hinv, CC⟩ := canon_of (d := dInfo P L D ops) ok CS rfl F.dis (by rw [e1]; exact dropD_binv _ _) hc
    have mono : ∀ k, k ≤ ops.size → (hh k).next ≤ (hh ops.size).next := by
      have : ∀ j k, k + j = ops.size → (hh k).next ≤ (hh ops.size).next := by
        intro j
        induction j with
        | zero => intro k hk; simp at hk; subst hk; exact Nat.le_refl _
        | succ j ih => intro k hk; exact Nat.le_trans ((hc k (by omega)).reach (dcf_sound CS _ k)).1 (ih (k + 1) (by omega))
      exact fun k hk => this (ops.size - k) k (by omega)
    have hfin := hk _ _ e3
    have C' : RRel W0 α m B U M h { w with drawn := w.drawn + 1 } := ⟨C.heap.drew _ rfl, C.sub, C.dom, C.free, C.top, C.UM, C.vis, C.fl, C.old.trans ⟨rfl, rfl, rfl, Nat.le_refl _, fun _ _ => rfl⟩⟩
    have p0 : Post W0 B G U α m M h w α m M h { w with drawn := w.drawn + 1 } := ⟨C', Le.refl _ _, ⟨rfl, rfl, rfl, Nat.le_refl _, fun _ _ => rfl⟩, Nat.le_refl _, rfl, rfl, Nat.le_refl _, fun _ _ _ => rfl⟩
    refine wp_region_any hm ?_
    have hS0 : ∀ j, listedS (Array.replicate ops.size false) j = false := fun j => by
      simp only [listedS, Array.getD_eq_getD_getElem?, Array.getElem?_replicate]; split <;> rfl
    have hval0 : ∀ s m, valAt (listedS (Array.replicate ops.size false)) (dInfo P L D ops).W tt s m = (tt 0).getD s undef := fun s m => by
      induction m with
      | zero => rfl
      | succ m ih => simp only [valAt]; rw [if_neg (fun k => by rw [hS0] at k; simp at k), ih]
    have hh0 : ∀ m, hAt (listedS (Array.replicate ops.size false)) (dInfo P L D ops).K hh m = hh 0 := fun m => by
      induction m with
      | zero => rfl
      | succ m ih => simp only [hAt]; rw [if_neg (fun k => by rw [hS0] at k; simp at k), ih]
    have hleft : ∀ (S : Nat → Bool) m, left S m ≤ m := fun S m => by
      induction m with
      | zero => simp [left]
      | succ m ih => simp only [left]; split <;> omega
    refine draw_any (d := dInfo P L D ops) ok CS rfl F.dis hinv CC hc hU (fun k hk => Nat.le_trans (mono k hk) hfin) (ds := a.defers) (h0 := h) (w0 := w) (α0 := α) (m0 := m) (M0 := M)
      (fun α' m' M' γ' a' w' hd p F' => hQ _ _ α' m' M' γ' a' w' e3 hd p F') ops.size _ α m M γ (dropD D t) a _ (by simp [dInfo]) (hleft _ _) ⟨fun i hi => by rw [hS0] at hi; simp at hi⟩ (fun s => by rw [hval0, e1]) (by rw [e1]) F.dropD rfl ?_
    rw [hh0, e2]; exact p0

end
end Go.Am
