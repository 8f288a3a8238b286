/- Regions that draw their order: a step hangs on the slots alone that its text names. -/
import Derived.Test.YtgpeieohdelniaaGreatDoorAmDraw1
namespace Go.Am
open Go Go.RowKit

section
variable {R : Type} {P : Program} {h h' h'' g : St} {L D : List Nat} {t u : List Value} {callf : FuncId → AFn} {o : Oper} {ops : Array Oper} {b : Nat → Option Nat}

theorem map_eq {ρ ρ' : Operand → Value} {xs : List Operand} (hρ : ∀ x ∈ xs, ρ' x = ρ x) : xs.map ρ = xs.map ρ' := List.map_congr_left fun x hx => (hρ x hx).symm
theorem amap_eq {ρ ρ' : Operand → Value} {xs : Array Operand} (hρ : ∀ x ∈ xs, ρ' x = ρ x) : xs.toList.map ρ = xs.toList.map ρ' := map_eq fun x hx => hρ x (by simpa using hx)
theorem parts_eq {ρ ρ' : Operand → Value} {ps : Array (Nat × Operand)} (hρ : ∀ x ∈ ps.toList.map (·.2), ρ' x = ρ x) : (ps.toList.map fun p => (p.1, ρ p.2)) = (ps.toList.map fun p => (p.1, ρ' p.2)) :=
  List.map_congr_left fun p hp => by rw [hρ p.2 (List.mem_map.2 ⟨p, hp, rfl⟩)]
theorem opt_eq {ρ ρ' : Operand → Value} {x : Option Operand} (hρ : ∀ y, x = some y → ρ' y = ρ y) : x.map ρ = x.map ρ' := by
  cases x with
  | none => rfl
  | some y => simp [hρ y rfl]

theorem IsOp.congr {ρ ρ' : Operand → Value} {v : Value} (hρ : ∀ x ∈ o.op.operands, ρ' x = ρ x) (e : IsOp P h ρ o v h') : IsOp P h ρ' o v h' := by
  cases e with
  | move x he =>
    have := hρ x (by rcases he with he | he <;> simp [he, Op.operands])
    rw [← this]; exact .move x he
  | pick c a b q he hc =>
    have h1 := hρ c (by simp [he, Op.operands])
    have h2 := hρ a (by simp [he, Op.operands])
    have h3 := hρ b (by simp [he, Op.operands])
    rw [← h2, ← h3]; exact .pick c a b q he (h1.trans hc)
  | alloc t v h' he k => exact .alloc t v h' he k
  | box t x he =>
    have := hρ x (by simp [he, Op.operands])
    have e := IsOp.box (P := P) (h := h) (ρ := ρ') t x he
    rw [this] at e; exact e
  | build t ps v he k => exact .build t ps v he (by rw [← parts_eq fun x hx => hρ x (by simp only [he, Op.operands]; simpa using hx)]; exact k)
  | buildSlice t n ps v h' he k => exact .buildSlice t n ps v h' he (by rw [← parts_eq fun x hx => hρ x (by simp only [he, Op.operands]; simpa using hx)]; exact k)
  | load t a v he k => exact .load t a v he (by rw [hρ a (by simp [he, Op.operands])]; exact k)
  | store t a x h' he k => exact .store t a x h' he (by rw [hρ a (by simp [he, Op.operands]), hρ x (by simp [he, Op.operands])]; exact k)
  | nilPtr x a he hx =>
    have := hρ x (by simp [he, Op.operands])
    rw [← this]; exact .nilPtr x a he (this.trans hx)
  | nilFun x f a b he hx =>
    have := hρ x (by simp [he, Op.operands])
    rw [← this]; exact .nilFun x f a b he (this.trans hx)
  | bin op t x y yt v he k => exact .bin op t x y yt v he (by rw [hρ x (by simp [he, Op.operands]), hρ y (by simp [he, Op.operands])]; exact k)
  | un op t x v he k => exact .un op t x v he (by rw [hρ x (by simp [he, Op.operands])]; exact k)
  | convert s' d x v he k => exact .convert s' d x v he (by rw [hρ x (by simp [he, Op.operands])]; exact k)
  | bytes s' d x v he hb k => exact .bytes s' d x v he hb (by rw [hρ x (by simp [he, Op.operands])]; exact k)
  | iface t x d he hu hd =>
    have := hρ x (by simp [he, Op.operands])
    rw [← this]; exact .iface t x d he hu hd
  | func f a b he =>
    have h1 := amap_eq (ρ := ρ) (ρ' := ρ') (xs := a) (fun x hx => hρ x (by simp only [he, Op.operands, Array.mem_append]; exact .inl hx))
    have h2 := amap_eq (ρ := ρ) (ρ' := ρ') (xs := b) (fun x hx => hρ x (by simp only [he, Op.operands, Array.mem_append]; exact .inr hx))
    rw [h1, h2]; exact .func f a b he
  | makeMap t a e r he hu hr =>
    refine .makeMap t a e r he hu ?_
    rw [← opt_eq (ρ := ρ) (ρ' := ρ') fun y hy => hρ y (by simp [he, Op.operands, hy])]; exact hr
  | makeSlice t l c v h' he k => exact .makeSlice t l c v h' he (by rw [hρ l (by simp [he, Op.operands]), hρ c (by simp [he, Op.operands])]; exact k)
  | slice t x lo hi v he k =>
    refine .slice t x lo hi v he ?_
    rw [hρ x (by simp [he, Op.operands]), ← opt_eq (ρ := ρ) (ρ' := ρ') fun y hy => hρ y (by simp [he, Op.operands, hy]), ← opt_eq (ρ := ρ) (ρ' := ρ') fun y hy => hρ y (by simp [he, Op.operands, hy])]; exact k
  | fieldAddr t x f v he k => exact .fieldAddr t x f v he (by rw [hρ x (by simp [he, Op.operands])]; exact k)
  | field t x f v he k => exact .field t x f v he (by rw [hρ x (by simp [he, Op.operands])]; exact k)
  | indexAddr t x i v he k => exact .indexAddr t x i v he (by rw [hρ x (by simp [he, Op.operands]), hρ i (by simp [he, Op.operands])]; exact k)
  | index t x i v he k => exact .index t x i v he (by rw [hρ x (by simp [he, Op.operands]), hρ i (by simp [he, Op.operands])]; exact k)
  | lookup t x i ok v he k => exact .lookup t x i ok v he (by rw [hρ x (by simp [he, Op.operands]), hρ i (by simp [he, Op.operands])]; exact k)
  | mapUpdate t m i x h' he k =>
    have hmem : ∀ y, y = m ∨ y = i ∨ y = x → y ∈ o.op.operands := fun y hy => by rcases he with he | he <;> (simp only [he, Op.operands]; simpa using hy)
    exact .mapUpdate t m i x h' he (by rw [hρ m (hmem m (.inl rfl)), hρ i (hmem i (.inr (.inl rfl))), hρ x (hmem x (.inr (.inr rfl)))]; exact k)
  | extract x i vs v he hx k => exact .extract x i vs v he ((hρ x (by simp [he, Op.operands])).trans hx) k
  | len args ts t x v he ht hx k => exact .len args ts t x v he ht (by rw [← amap_eq fun y hy => hρ y (by simp only [he, Op.operands, Call.operands]; simpa using hy)]; exact hx) k
  | append args ts t u d s x v h' he ht hx hu hd k => exact .append args ts t u d s x v h' he ht (by rw [← amap_eq fun y hy => hρ y (by simp only [he, Op.operands, Call.operands]; simpa using hy)]; exact hx) hu hd k
  | copy args ts t u d x v h' he ht hx k => exact .copy args ts t u d x v h' he ht (by rw [← amap_eq fun y hy => hρ y (by simp only [he, Op.operands, Call.operands]; simpa using hy)]; exact hx) k
  | clear args ts t d h' he ht hx k => exact .clear args ts t d h' he ht (by rw [← amap_eq fun y hy => hρ y (by simp only [he, Op.operands, Call.operands]; simpa using hy)]; exact hx) k
  | max args ts v he k => exact .max args ts v he (by rw [← amap_eq fun y hy => hρ y (by simp only [he, Op.operands, Call.operands]; simpa using hy)]; exact k)
  | min args ts v he k => exact .min args ts v he (by rw [← amap_eq fun y hy => hρ y (by simp only [he, Op.operands, Call.operands]; simpa using hy)]; exact k)

/-! slots -/
def BInv (D : List Nat) (b : Nat → Option Nat) (t : List Value) : Prop := ∀ s, D.contains s = true → ∀ r o, t.getD s undef = .complex .f32 r o → b s = some r
/-- Alike on slots. -/
def On (l : List Nat) (t u : List Value) : Prop := ∀ s ∈ l, u.getD s undef = t.getD s undef
def Off (l : List Nat) (t u : List Value) : Prop := ∀ s, s ∉ l → u.getD s undef = t.getD s undef
theorem On.mono {l l' : List Nat} (h : On l t u) (hs : ∀ s ∈ l', s ∈ l) : On l' t u := fun s k => h s (hs s k)

def pts (r : Nat) : Value → Bool
  | .complex .f32 r' _ => r' == r
  | _ => false
theorem pts_of {r : Nat} {v : Value} (h : pts r v = true) : ∃ o, v = .complex .f32 r o := by
  unfold pts at h; split at h
  · rename_i r' o; simp at h; subst h; exact ⟨o, rfl⟩
  · simp at h
theorem clear1_val (r d : Nat) (t : List Value) (i : Nat) : (clear1 r d t).getD i undef = if i = d ∧ pts r (t.getD d undef) = true then undef else t.getD i undef := by
  unfold clear1
  split
  · rename_i r' o' hc
    rw [hc]
    split
    · rename_i hr
      subst hr
      rw [getD_set]
      by_cases hd : d = i
      · subst hd
        rw [if_pos (show d = d ∧ pts r' (.complex .f32 r' o') = true from ⟨rfl, by simp [pts]⟩)]
        split
        · rfl
        · rename_i hn
          rw [List.getD_eq_getElem?_getD, List.getElem?_eq_none (by simp at hn; exact hn)]; rfl
      · rw [if_neg (fun h => hd h.1), if_neg (fun h => hd h.1.symm)]
    · rename_i hr
      rw [if_neg]
      rintro ⟨_, ho⟩
      simp [pts] at ho; exact hr ho
  · rename_i hn
    rw [if_neg]
    rintro ⟨_, ho⟩
    obtain ⟨o, ho⟩ := pts_of ho
    exact hn _ _ ho
theorem clearD_val (r : Nat) : ∀ (ds : List Nat) (t : List Value) (i : Nat), (clearD r ds t).getD i undef = if ds.contains i = true ∧ pts r (t.getD i undef) = true then undef else t.getD i undef := by
  intro ds
  induction ds with
  | nil => intro t i; simp [clearD]
  | cons d ds ih =>
    intro t i
    simp only [clearD]
    rw [ih]
    have hcl := clear1_val r d t i
    by_cases hid : i = d
    · subst hid
      by_cases hc : pts r (t.getD i undef) = true
      · rw [if_pos ⟨rfl, hc⟩] at hcl
        rw [hcl, if_pos (show (i :: ds).contains i = true ∧ pts r (t.getD i undef) = true from ⟨by simp, hc⟩)]
        split <;> rfl
      · rw [if_neg (fun h => hc h.2)] at hcl
        rw [hcl, if_neg (fun h => hc h.2), if_neg (fun h => hc h.2)]
    · rw [if_neg (fun h => hid h.1)] at hcl
      have : (d :: ds).contains i = ds.contains i := by simp [hid]
      rw [hcl, this]

theorem aput_val (t : List Value) (dst : Option Nat) (v : Value) (i : Nat) : (aput t dst v).getD i undef = if dst = some i ∧ i < t.length then v else t.getD i undef := by
  cases dst with
  | none => simp [aput]
  | some d =>
    simp only [aput, getD_set]
    by_cases hd : d = i
    · subst hd; simp
    · rw [if_neg (fun h => hd h.1), if_neg (fun h => hd (by simpa using h.1))]
theorem aput_off (t : List Value) (dst : Option Nat) (v : Value) {l : List Nat} (hl : ∀ d, dst = some d → d ∈ l) : Off l t (aput t dst v) := fun s hs => by
  rw [aput_val, if_neg]; rintro ⟨h, _⟩; exact hs (hl s h)
theorem aput_on (hlen : u.length = t.length) (dst : Option Nat) (v : Value) {l : List Nat} (hon : On l t u) : On l (aput t dst v) (aput u dst v) := fun s hs => by
  rw [aput_val, aput_val, hlen, hon s hs]
theorem aput_binv (hB : BInv D b t) (dst : Option Nat) {v : Value} (hd : ∀ d, dst = some d → D.contains d = true → ∀ r o, v = .complex .f32 r o → b d = some r) : BInv D b (aput t dst v) := fun s hs r o e => by
  rw [aput_val] at e
  split at e
  · rename_i h; exact hd s h.1 hs r o e
  · exact hB s hs r o e

theorem aloc_on {l : List Nat} (hon : On l t u) {s : Nat} (hs : s ∈ l) : aloc L u s = aloc L t s := by
  unfold aloc; rw [hon s hs]
theorem aloc_base {s q p : Nat} (hB : BInv D b t) (hs : (L.contains s || D.contains s) = true) (hL : ∀ s, L.contains s = true → b s = some s) (e : aloc L t s = some (q, p)) : b s = some q := by
  unfold aloc at e
  split at e
  · rename_i h; simp only [Option.some.injEq, Prod.mk.injEq] at e; rw [← e.1]; exact hL s h
  · rename_i h
    have hD : D.contains s = true := by
      have : L.contains s = false := by simpa using h
      rw [this] at hs; simpa using hs
    split at e
    · rename_i r o hc; simp only [Option.some.injEq, Prod.mk.injEq] at e; rw [← e.1]; exact hB s hD _ _ hc
    · simp at e

/-- What a step of another frame, alike on the slots that the step's text names, comes to. -/
structure Alike (callf : FuncId → AFn) (P : Program) (L D : List Nat) (b : Nat → Option Nat) (h : St) (t u : List Value) (o : Oper) (t' u' : List Value) (h' : St) : Prop where
  step : StepIs callf P L D h u o u' h'
  on : On (wr L D b o) t' u'
  off : Off (wr L D b o) u u'
  offT : Off (wr L D b o) t t'
  len : u'.length = u.length
  inv : BInv D b t'

theorem looks_operand {x : Operand} (hx : x ∈ o.op.operands) {l : List Nat} (hon : On l t u) (hl : ∀ s ∈ o.looksAt ops, s ∈ l) : aev u x = aev t x := by
  cases x with
  | tmp s =>
    have : s ∈ o.looksAt ops := by
      unfold Oper.looksAt
      exact List.mem_append_left _ (List.mem_filterMap.2 ⟨.tmp s, by simpa using hx, rfl⟩)
    exact hon s (hl s this)
  | _ => rfl

theorem getD_agg_len {q : Nat} {cs : Array Value} (hc : t.getD q undef = .agg cs) : q < t.length := by
  rcases Nat.lt_or_ge q t.length with h | h
  · exact h
  · rw [List.getD_eq_getElem?_getD, List.getElem?_eq_none h] at hc; simp [undef] at hc

theorem fresh_alike {d : Nat} {v : Value} (hd : o.dst = some d) (hL : L.contains d = true) (hw : wr L D b o = d :: D.filter (fun s => b s == some d)) (hon : On (wr L D b o) t u) (hB : BInv D b t) (hBu : BInv D b u)
    (hlen : u.length = t.length) (hdis : ∀ s, L.contains s = true → D.contains s = false) : On (wr L D b o) ((clearD d D t).set d v) ((clearD d D u).set d v) ∧ Off (wr L D b o) u ((clearD d D u).set d v) ∧ Off (wr L D b o) t ((clearD d D t).set d v) ∧ BInv D b ((clearD d D t).set d v) := by
  have off : ∀ (t : List Value), BInv D b t → Off (wr L D b o) t ((clearD d D t).set d v) := fun t hB s hs => by
    rw [hw] at hs
    rw [getD_set, if_neg (fun h => hs (by rw [h.1]; simp)), clearD_val, if_neg]
    rintro ⟨h1, h2⟩
    obtain ⟨o, h2⟩ := pts_of h2
    exact hs (List.mem_cons_of_mem _ (List.mem_filter.2 ⟨by simpa using h1, by simp [hB s h1 _ _ h2]⟩))
  refine ⟨fun s hs => ?_, off u hBu, off t hB, fun s hs r o e => ?_⟩
  · rw [getD_set, getD_set, clearD_length, clearD_length, hlen, clearD_val, clearD_val, hon s hs]
  · have hne : d ≠ s := fun e => by subst e; rw [hdis d hL] at hs; simp at hs
    rw [getD_set, if_neg (fun h => hne h.1), clearD_val] at e
    split at e
    · simp [undef] at e
    · exact hB s hs r o e

theorem StepIs.alike {t' : List Value} (e : StepIs callf P L D h t o t' h') (ok : okOper L D ops o = true) (okb : okB L D b o = true) (hbL : ∀ s, L.contains s = true → b s = some s) (hdis : ∀ s, L.contains s = true → D.contains s = false)
    (hon : On (rd L D b ops o ++ wr L D b o) t u) (hB : BInv D b t) (hBu : BInv D b u) (hlen : u.length = t.length) : ∃ u', Alike callf P L D b h t u o t' u' h' := by
  have hlook : ∀ s ∈ o.looksAt ops, s ∈ rd L D b ops o ++ wr L D b o := fun s hs => List.mem_append_left _ (List.mem_append_left _ hs)
  have hρ : ∀ x ∈ o.op.operands, aev u x = aev t x := fun x hx => looks_operand hx hon hlook
  have onW : On (wr L D b o) t u := hon.mono fun s hs => List.mem_append_right _ hs
  have plain : ∀ (v : Value), (∀ d, o.dst = some d → d ∈ wr L D b o) → (∀ d, o.dst = some d → D.contains d = false) → On (wr L D b o) (aput t o.dst v) (aput u o.dst v) ∧ Off (wr L D b o) u (aput u o.dst v) ∧ Off (wr L D b o) t (aput t o.dst v) ∧ (aput u o.dst v).length = u.length ∧ BInv D b (aput t o.dst v) :=
    fun v h1 h2 => ⟨aput_on hlen _ _ onW, aput_off _ _ _ h1, aput_off _ _ _ h1, aput_length _ _ _, aput_binv hB _ fun d hd hD => by rw [h2 d hd] at hD; simp at hD⟩
  have dstW : ∀ d, o.dst = some d → d ∈ wr L D b o := fun d hd => by
    unfold wr
    split
    · simp [hd]
    · simp [hd]
    · split <;> simp [hd]
    · simp [hd]
  cases e with
  | gen v h' hi hl =>
    obtain ⟨h1, _⟩ := okOper_gen ok hl
    obtain ⟨p1, p2, p3, p4, p5⟩ := plain v dstW fun d hd => (h1 d hd).2
    exact ⟨aput u o.dst v, .gen v h' (hi.congr hρ) hl, p1, p2, p3, p4, p5⟩
  | alloc T d z he hd hL hz =>
    have hw : wr L D b o = d :: D.filter (fun s => b s == some d) := by simp only [wr, he, hd, hL, if_true]
    obtain ⟨p1, p2, p3, p4⟩ := fresh_alike (v := .agg z.cells) hd hL hw onW hB hBu hlen hdis
    exact ⟨_, .alloc T d z he hd hL hz, p1, p2, p3, by simp [clearD_length], p4⟩
  | box T x d he hd hL =>
    have hw : wr L D b o = d :: D.filter (fun s => b s == some d) := by simp only [wr, he, hd, hL, if_true]
    obtain ⟨p1, p2, p3, p4⟩ := fresh_alike (v := .agg (aev t x).cells.toList.toArray) hd hL hw onW hB hBu hlen hdis
    have hx := hρ x (by simp [he, Op.operands])
    have hs := StepIs.box (callf := callf) (P := P) (D := D) (h := h) (t := u) T x d he hd hL
    rw [hx] at hs
    exact ⟨_, hs, p1, p2, p3, by simp [clearD_length], p4⟩
  | field T s f d q p cs fd n he hdst hD hf hn hn0 hp hc =>
    have hLD : (L.contains s || D.contains s) = true := by
      unfold okOper at ok; rw [Bool.and_eq_true] at ok; have ok := ok.2; simp only [he, hdst, hD, if_true, Bool.and_eq_true] at ok; exact ok.2
    have hbs := aloc_base hB hLD hbL hp
    have hs : s ∈ rd L D b ops o ++ wr L D b o := hlook s (by unfold Oper.looksAt; exact List.mem_append_left _ (List.mem_filterMap.2 ⟨.tmp s, by simp [he, Op.operands], rfl⟩))
    have hq : q ∈ rd L D b ops o ++ wr L D b o := List.mem_append_left _ (List.mem_append_right _ (by simp only [rdb, he, isLD, hLD, if_true, hbs]; simp))
    have hbd : b d = some q := by
      simp only [okB, he, hdst, hD, Bool.and_eq_true, Bool.not_true, Bool.false_or, beq_iff_eq] at okb
      rw [okb.2, hbs]
    have hst := StepIs.field (callf := callf) (P := P) (h := h) (t := u) T s f d q p cs fd n he hdst hD hf hn hn0 (by rw [aloc_on hon hs]; exact hp) (by rw [hon q hq]; exact hc)
    have e1 : ∀ (t : List Value), t.set d (.complex .f32 q (p + fd.offset)) = aput t o.dst (.complex .f32 q (p + fd.offset)) := fun t => by rw [hdst]; rfl
    rw [e1] at hst ⊢
    exact ⟨_, hst, aput_on hlen _ _ onW, aput_off _ _ _ dstW, aput_off _ _ _ dstW, aput_length _ _ _, aput_binv hB _ fun d' hd' _ r o' hv => by
      rw [hdst] at hd'; cases hd'; cases hv; exact hbd⟩
  | load T s q p cs v he hs hp hc hv =>
    have hbs := aloc_base hB hs hbL hp
    have hsr : s ∈ rd L D b ops o ++ wr L D b o := hlook s (by unfold Oper.looksAt; exact List.mem_append_left _ (List.mem_filterMap.2 ⟨.tmp s, by simp [he, Op.operands], rfl⟩))
    have hq : q ∈ rd L D b ops o ++ wr L D b o := List.mem_append_left _ (List.mem_append_right _ (by simp only [rdb, he, isLD, hs, if_true, hbs]; simp))
    have hdD : ∀ d, o.dst = some d → D.contains d = false := fun d hd => by
      unfold okOper at ok; rw [Bool.and_eq_true] at ok; have ok := ok.2; simp only [he, Bool.and_eq_true] at ok
      have := ok.1; rw [hd] at this; simp only [Bool.not_eq_true', Bool.or_eq_false_iff] at this; exact this.2
    obtain ⟨p1, p2, p3, p4, p5⟩ := plain v dstW hdD
    exact ⟨_, .load T s q p cs v he hs (by rw [aloc_on hon hsr]; exact hp) (by rw [hon q hq]; exact hc) hv, p1, p2, p3, p4, p5⟩
  | store T s q p n y cs he hs hp hc hn hsz h1 hfit =>
    have hbs := aloc_base hB hs hbL hp
    have hsr : s ∈ rd L D b ops o ++ wr L D b o := hlook s (by unfold Oper.looksAt; exact List.mem_append_left _ (List.mem_filterMap.2 ⟨.tmp s, by simp [he, Op.operands], rfl⟩))
    have hqw : q ∈ wr L D b o := by simp only [wr, he, isLD, hs, if_true, hbs]; simp
    have hq : q ∈ rd L D b ops o ++ wr L D b o := List.mem_append_right _ hqw
    have hy := hρ y (by simp [he, Op.operands])
    have hst := StepIs.store (callf := callf) (P := P) (h := h) (t := u) T s q p n y cs he hs (by rw [aloc_on hon hsr]; exact hp) (by rw [hon q hq]; exact hc) hn (by rw [hy]; exact hsz) (by rw [hy]; exact h1) hfit
    rw [hy] at hst
    have e1 : ∀ (t : List Value) (v : Value), t.set q v = aput t (some q) v := fun t v => rfl
    rw [e1] at hst
    rw [e1]
    refine ⟨_, hst, aput_on hlen _ _ onW, aput_off _ _ _ (fun d hd => by cases hd; exact hqw), aput_off _ _ _ (fun d hd => by cases hd; exact hqw), aput_length _ _ _, aput_binv hB _ fun d hd _ r o' hv => by cases hv⟩
  | call f args ts g first captured v h' he hf hc =>
    have hdD : ∀ d, o.dst = some d → D.contains d = false := fun d hd => by
      unfold okOper at ok; rw [Bool.and_eq_true] at ok; have ok := ok.2; simp only [he, Bool.and_eq_true] at ok
      have := ok.1; rw [hd] at this; simp only [Bool.not_eq_true', Bool.or_eq_false_iff] at this; exact this.2
    obtain ⟨p1, p2, p3, p4, p5⟩ := plain v dstW hdD
    refine ⟨_, .call f args ts g first captured v h' he ((hρ f (by simp [he, Op.operands, Call.operands])).trans hf) ?_, p1, p2, p3, p4, p5⟩
    rw [← amap_eq fun y hy => hρ y (by simp only [he, Op.operands, Call.operands, Array.mem_append]; exact .inr hy)]
    exact hc

end
end Go.Am
