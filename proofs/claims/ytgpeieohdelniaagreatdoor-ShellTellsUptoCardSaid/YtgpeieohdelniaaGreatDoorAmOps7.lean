/- Operators, whole. -/
import Derived.Test.YtgpeieohdelniaaGreatDoorAmOps6
namespace Go.Am
open Go Go.RowKit

section
variable {P : Program} {α : Corr} {h h' : St} {B : Nat} {w : World}

theorem eqGuard_pass {op : BinOp} {t : TypeId} {x y : Operand} {ca cb : Value} (h1 : ca ≠ .nilIface) (h2 : ∀ cs, ca ≠ .agg cs) : (eqGuard op t x y ca cb).run P w = .ok () w := by
  cases ca <;> first
    | exact absurd rfl h1
    | exact absurd rfl (h2 _)
    | (cases op <;> rfl)
theorem aguard_sound {op : BinOp} {t : TypeId} {x y : Operand} {a b ca cb : Value} (k : aguard P t x y a b = true) {m : Mem} (ha : VRel α m a ca) (hb : VRel α m b cb) : (eqGuard op t x y ca cb).run P w = .ok () w := by
  by_cases h1 : ca = .nilIface
  · subst h1
    cases ha
    cases hb <;> first
      | (simp only [aguard] at k
         cases x <;> cases y <;> simp at k <;> (cases op <;> rfl))
      | (cases op <;> rfl)
  · by_cases h2 : ∃ cs, ca = .agg cs
    · obtain ⟨cs, rfl⟩ := h2
      cases ha
      cases hb <;> first
        | (simp only [aguard] at k
           have : P.eqGuardType P.depth t = false := by simpa using k
           cases op <;> simp [eqGuard, this]; done)
        | (cases op <;> rfl)
    · exact eqGuard_pass h1 (fun cs e => h2 ⟨cs, e⟩)

theorem plainOp_rel {m : Mem} {a ca : Value} (ha : VRel α m a ca) : plainOp ca = plainOp a := by cases ha <;> rfl
theorem binOp_eql {t : TypeId} {a b : Value} (k : plainOp a = true) : binOp .eql t a b = (do pure (.bool (← Op.equal t a b))) := by
  cases a <;> simp [plainOp] at k <;> rfl
theorem binOp_neq {t : TypeId} {a b : Value} (k : plainOp a = true) : binOp .neq t a b = (do pure (.bool (!(← Op.equal t a b)))) := by
  cases a <;> simp [plainOp] at k <;> rfl

theorem aeql_sound {op : BinOp} {t : TypeId} {x y : Operand} {a b ca cb : Value} {r : Bool} (k : aeql P h t x y a b = some r) (H : HRel α h.m B w) (ha : VRel α h.m a ca) (hb : VRel α h.m b cb) :
    plainOp ca = true ∧ (eqGuard op t x y ca cb).run P w = .ok () w ∧ (Op.equal t ca cb).run P w = .ok r w := by
  unfold aeql at k
  have key : ∀ (hi : ∀ k, P.underlying t ≠ some (.int k)) (hf : ∀ k, P.underlying t ≠ some (.float k)) (hc : ∀ k, P.underlying t ≠ some (.complex k)) (hs : P.underlying t ≠ some .string),
      (if aguard P t x y a b = true then aeq P h 10 t a b else none) = some r → plainOp ca = true ∧ (eqGuard op t x y ca cb).run P w = .ok () w ∧ (Op.equal t ca cb).run P w = .ok r w := by
    intro hi hf hc hs k
    split at k
    · rename_i hg
      refine ⟨?_, aguard_sound (P := P) hg ha hb, aeq_sound (P := P) H 10 10000 t _ _ ca cb r (by omega) k ha hb⟩
      rw [plainOp_rel ha]
      unfold aeq at k
      split at k
      · split at k
        · rfl
        · simp at k
      · rename_i hu; exact absurd hu (hi _)
      · rename_i hu; exact absurd hu hs
      · rename_i e hu
        cases hn : tsize P e with
        | none => simp [hn] at k
        | some n =>
          simp only [hn, Option.bind_some] at k
          split at k
          · unfold peq at k; split at k <;> first | rfl | simp at k
          · simp at k
      · split at k
        · rfl
        · simp at k
      · unfold inileq at k; split at k <;> first | rfl | simp at k
      · unfold snileq at k; split at k <;> first | rfl | simp at k
      · unfold mnileq at k; split at k <;> first | rfl | simp at k
      · unfold fnileq at k; split at k <;> first | rfl | simp at k
      · simp at k
    · simp at k
  split at k
  · simp at k
  · simp at k
  · simp at k
  · simp at k
  · simp at k
  · rename_i n1 n2 n3 n4 n5
    exact key (fun q e => n1 q e) (fun q e => n2 q e) (fun q e => n3 q e) (fun e => n4 e) k

theorem abin_sound {op : BinOp} {t : TypeId} {x y : Operand} {a b ca cb v : Value} (k : abin P h op t x y a b = some v) (H : HRel α h.m B w) (ha : VRel α h.m a ca) (hb : VRel α h.m b cb) :
    PureOut P α h.m w (do eqGuard op t x y ca cb; binOp op t ca cb) v := by
  unfold abin at k
  split at k
  · rename_i kd a kd' b
    cases ha; cases hb
    obtain ⟨cv, hr, hv⟩ := ashift_sound (P := P) (α := α) (w := w) (k' := kd') k h.m t (.inl rfl)
    exact ⟨cv, by simp [eqGuard, hr], hv⟩
  · rename_i kd a kd' b
    cases ha; cases hb
    obtain ⟨cv, hr, hv⟩ := ashift_sound (P := P) (α := α) (w := w) (k' := kd') k h.m t (.inr rfl)
    exact ⟨cv, by simp [eqGuard, hr], hv⟩
  · cases ha; cases hb
    split at k
    · rename_i hk; subst hk
      obtain ⟨cv, hr, hv⟩ := aint_sound (P := P) (α := α) (w := w) k h.m t
      exact ⟨cv, by cases op <;> simp [eqGuard, hr], hv⟩
    · simp at k
  · cases ha; cases hb
    obtain ⟨cv, hr, hv⟩ := astr_sound (P := P) (α := α) (w := w) k h.m t
    exact ⟨cv, by cases op <;> simp [eqGuard, hr], hv⟩
  · rw [Option.bind_eq_some_iff] at k
    obtain ⟨r, he, hk⟩ := k
    simp only [Option.some.injEq] at hk; subst hk
    obtain ⟨h0, h1, h2⟩ := aeql_sound (P := P) (op := .eql) he H ha hb
    rw [binOp_eql h0]
    exact ⟨.bool r, by simp [h1, h2], .bool r⟩
  · rw [Option.bind_eq_some_iff] at k
    obtain ⟨r, he, hk⟩ := k
    simp only [Option.some.injEq] at hk; subst hk
    obtain ⟨h0, h1, h2⟩ := aeql_sound (P := P) (op := .neq) he H ha hb
    rw [binOp_neq h0]
    exact ⟨.bool !r, by simp [h1, h2], .bool _⟩
  · simp at k

theorem aun_sound {op : UnOp} {x cx v : Value} (k : aun op x = some v) {m : Mem} (hx : VRel α m x cx) : PureOut P α m w (Op.unary op cx) v := by
  unfold aun at k
  split at k
  · cases hx; simp only [wsub, Option.some.injEq] at k; subst k; exact ⟨_, by simp [Op.unary, Op.intArith], .int _ _⟩
  · cases hx; simp only [wxor, Option.some.injEq] at k; subst k; exact ⟨_, by simp [Op.unary, Op.intBits], .int _ _⟩
  · cases hx; simp only [bnot, Option.some.injEq] at k; subst k; exact ⟨_, by simp [Op.unary], .bool _⟩
  · simp at k

theorem aconvert_sound {src dst : TypeId} {x cx v : Value} (k : aconvert P src dst x = some v) {m : Mem} (hx : VRel α m x cx) : PureOut P α m w (convert src dst cx) v := by
  unfold aconvert at k
  split at k
  · rename_i h1 h2; cases hx; simp only [wconv, Option.some.injEq] at k; subst k; exact ⟨_, by simp [convert, run_und h1, run_und h2, Conv.intToInt], .int _ _⟩
  · rename_i h1 h2; cases hx; simp only [Option.some.injEq] at k; subst k; exact ⟨_, by simp [convert, run_und h1, run_und h2], .string _⟩
  · simp at k

theorem aminmax_list {mx : Bool} {xs : List Value} {cxs : Array Value} {v : Value} (k : aminmax mx xs = some v) {m : Mem} (hx : LRel α m xs cxs.toList) :
    ∃ kd a b, cxs.toList = [.int kd a, .int kd b] ∧ v = .int kd (if mx then imax a b else imin a b) := by
  unfold aminmax at k
  split at k
  · rename_i kd a kd' b
    split at k
    · rename_i hk; subst hk
      simp only [Option.some.injEq] at k; subst k
      have hl := hx.1
      have h0 := hx.getD 0
      have h1 := hx.getD 1
      refine ⟨kd, a, b, ?_, rfl⟩
      match hq : cxs.toList with
      | [] => simp [hq] at hl
      | [_] => simp [hq] at hl
      | [x, y] =>
        simp [hq] at h0 h1
        cases h0; cases h1; rfl
      | _ :: _ :: _ :: _ => simp [hq] at hl
    · simp at k
  · simp at k
theorem amax_sound {xs : List Value} {cxs : Array Value} {v : Value} {ts : Array TypeId} {t : TypeId} (k : aminmax true xs = some v) {m : Mem} (hx : LRel α m xs cxs.toList) :
    PureOut P α m w (Builtin.max_ ts t cxs) v := by
  obtain ⟨kd, a, b, hc, rfl⟩ := aminmax_list k hx
  exact ⟨_, by simp [Builtin.max_, hc, Builtin.max2, imax], .int _ _⟩
theorem amin_sound {xs : List Value} {cxs : Array Value} {v : Value} {ts : Array TypeId} {t : TypeId} (k : aminmax false xs = some v) {m : Mem} (hx : LRel α m xs cxs.toList) :
    PureOut P α m w (Builtin.min_ ts t cxs) v := by
  obtain ⟨kd, a, b, hc, rfl⟩ := aminmax_list k hx
  exact ⟨_, by simp [Builtin.min_, hc, Builtin.min2, imin], .int _ _⟩

end
end Go.Am
