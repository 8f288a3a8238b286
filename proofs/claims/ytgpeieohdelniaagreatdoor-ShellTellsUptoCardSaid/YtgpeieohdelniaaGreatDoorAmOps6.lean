/- Operators. -/
import Derived.Test.YtgpeieohdelniaaGreatDoorAmOps5
namespace Go.Am
open Go Go.RowKit

section
variable {P : Program} {α : Corr} {h h' : St} {B : Nat} {w : World}

theorem aint_sound {op : BinOp} {k : IntKind} {a b : Int} {v : Value} (hk : aint op k a b = some v) (m : Mem) (t : TypeId) : PureOut P α m w (binOp op t (.int k a) (.int k b)) v := by
  cases op
  case quo =>
    simp only [aint, wquo] at hk
    split at hk
    · simp at hk
    · rename_i h0; simp at hk; subst hk; exact ⟨_, by simp [binOp, Op.intDiv, h0]; rfl, by constructor⟩
  case rem =>
    simp only [aint, wrem] at hk
    split at hk
    · simp at hk
    · rename_i h0; simp at hk; subst hk; exact ⟨_, by simp [binOp, Op.intDiv, h0]; rfl, by constructor⟩
  all_goals
    simp [aint, wadd, wsub, wmul, wand, wor, wxor, wandNot, ieq, ilt, ile, bnot] at hk <;> first
    | (subst hk; exact ⟨_, by simp [binOp, Op.intArith, Op.intBits, Op.intCmp]; rfl, by constructor⟩)
    | (subst hk; exact ⟨_, by simp [binOp, Op.intArith, Op.intBits, Op.intCmp], by constructor⟩)

theorem ashift_sound {op : BinOp} {k k' : IntKind} {a b : Int} {v : Value} (hk : ashift op k a b = some v) (m : Mem) (t : TypeId) (hop : op = .shl ∨ op = .shr) : PureOut P α m w (binOp op t (.int k a) (.int k' b)) v := by
  unfold ashift wshl wshr at hk
  by_cases h0 : b < 0
  · rcases hop with rfl | rfl <;> simp [h0] at hk
  · rcases hop with rfl | rfl <;> simp [h0] at hk <;> subst hk <;> exact ⟨_, by simp [binOp, Op.shift, h0]; rfl, by constructor⟩

theorem astr_sound {op : BinOp} {a b : ByteArray} {v : Value} (hk : astr op a b = some v) (m : Mem) (t : TypeId) : PureOut P α m w (binOp op t (.string a) (.string b)) v := by
  cases op <;> simp only [astr, scat, seq, bnot] at hk <;> (try (simp at hk; done))
  · split at hk
    case isFalse => simp at hk
    rename_i h0
    simp at hk; subst hk
    have h1 : ¬ (9223372036854775807 < ((a.size : Int) + (b.size : Int))) := by omega
    have h2 : IntKind.i64.max = 9223372036854775807 := by decide
    exact ⟨_, by simp [binOp, Op.stringOp, h2, h1]; rfl, by constructor⟩
  · simp at hk; subst hk; exact ⟨_, by simp [binOp, Op.stringOp]; rfl, by constructor⟩
  · simp at hk; subst hk; exact ⟨_, by simp [binOp, Op.stringOp]; rfl, by constructor⟩

theorem aeqFields_sound {eq : TypeId → Value → Value → Option Bool} {d : Nat} (ih : ∀ (t : TypeId) (x y cx cy : Value) (b : Bool), eq t x y = some b → VRel α h.m x cx → VRel α h.m y cy → (Op.equalIn d t cx cy).run P w = .ok b w) {xs ys cxs cys : Array Value}
    (hx : LRel α h.m xs.toList cxs.toList) (hy : LRel α h.m ys.toList cys.toList) : ∀ (fs : List Field) (b : Bool), aeqFields P eq xs ys fs = some b → (Op.eqFields d cxs cys fs).run P w = .ok b w := by
  intro fs
  induction fs with
  | nil => intro b k; simp [aeqFields] at k; subst k; simp [Op.eqFields]
  | cons f fs ihf =>
    intro b k
    simp only [aeqFields] at k
    simp only [Op.eqFields]
    split at k
    · rename_i hn; simp only [hn, ne_eq, not_true, if_false]; exact ihf b k
    · rename_i hn
      simp only [hn, ne_eq, not_false_eq_true, if_true]
      cases hu : apart P f.type xs f.offset with
      | none => simp [hu] at k
      | some u =>
      cases hv : apart P f.type ys f.offset with
      | none => simp [hu, hv] at k
      | some v =>
      cases hq : eq f.type u v with
      | none => simp [hu, hv, hq] at k
      | some q =>
      cases hr : aeqFields P eq xs ys fs with
      | none => simp [hu, hv, hq, hr] at k
      | some r =>
        simp only [hu, hv, hq, hr, Option.bind_some, Option.some.injEq] at k; subst k
        obtain ⟨cu, hcu, hRu⟩ := apart_sound (P := P) (w := w) hu hx
        obtain ⟨cv, hcv, hRv⟩ := apart_sound (P := P) (w := w) hv hy
        have := ih _ _ _ _ _ _ hq hRu hRv
        simp only [Sem.run_bind, hcu, hcv, this, Result.andThen_ok]
        cases q
        · simp [band]
        · simp only [Bool.not_true, Bool.false_eq_true, if_false, band, Bool.true_and]; exact ihf r hr

theorem peq_sound (H : HRel α h.m B w) {D n : Nat} {t e : TypeId} {x y cx cy : Value} {b : Bool} (hu : P.underlying t = some (.pointer e)) (hn : tsize P e = some n) (hn0 : n ≠ 0) (k : peq h x y = some b) (hx : VRel α h.m x cx) (hy : VRel α h.m y cy) :
    (Op.equalIn (D + 1) t cx cy).run P w = .ok b w := by
  unfold peq at k
  split at k
  · cases hx; cases hy <;> simp at k <;> subst k <;> simp [Op.equalIn, run_und hu]
  · cases hy; cases hx <;> simp at k <;> subst k <;> simp [Op.equalIn, run_und hu]
  · split at k
    · rename_i a b' c1 c2 hg1 hg2
      split at k
      · rename_i hsp
        simp only [Option.some.injEq] at k
        have hm1 := St.get_m hg1
        have hm2 := St.get_m hg2
        obtain ⟨cs1, T1, fr1, hb1, hc1, hr1⟩ := H.obj _ _ hm1
        obtain ⟨cs2, T2, fr2, hb2, hc2, hr2⟩ := H.obj _ _ hm2
        obtain ⟨rfl, _⟩ := hr1 rfl
        obtain ⟨rfl, _⟩ := hr2 rfl
        cases hx with
        | pelem => simp at hsp
        | pcell id1 o1 ro1 cc1 hh1 =>
        cases hy with
        | pelem => simp at hsp
        | pcell id2 o2 ro2 cc2 hh2 =>
        simp only at hb1 hb2 hm1 hm2 k
        by_cases hid : id1 = id2
        · subst hid
          simp only [BEq.rfl, Bool.true_and] at k
          have hadd : ((⟨α.blk id1, α.off id1 + o1, none⟩ : Addr) == ⟨α.blk id1, α.off id1 + o2, none⟩) = (o1 == o2) := by
            rw [Bool.eq_iff_iff]; simp
          simp [Op.equalIn, run_und hu, run_tsize hn, hn0, sameAddr, hadd, k]
        · have hne := H.sep id1 id2 _ _ hm1 hm2 hid rfl
          have hid' : (id1 == id2) = false := by simpa using hid
          simp only [hid', Bool.false_and] at k; subst k
          have f1 : ∀ o, w.frozen? ⟨α.blk id1, o, none⟩ = false := fun o => by simp [World.frozen?, hb1]
          have f2 : ∀ o, w.frozen? ⟨α.blk id2, o, none⟩ = false := fun o => by simp [World.frozen?, hb2]
          have s1 : w.shape? (α.blk id1) = some (T1, cs1.size) := by simp [World.shape?, hb1]
          have s2 : w.shape? (α.blk id2) = some (T2, cs2.size) := by simp [World.shape?, hb2]
          simp [Op.equalIn, run_und hu, run_tsize hn, hn0, sameAddr, hne, f1, f2, noView, viewAt, s1, s2, mayBeOne, stringish]
      · simp at k
    · simp at k
  · simp at k

theorem inileq_sound {D : Nat} {t : TypeId} {x y cx cy : Value} {b : Bool} {ms : Array (String × TypeId)} (hu : P.underlying t = some (.interface ms)) (k : inileq x y = some b) (hx : VRel α h.m x cx) (hy : VRel α h.m y cy) :
    (Op.equalIn (D + 1) t cx cy).run P w = .ok b w := by
  unfold inileq at k
  split at k <;> first
    | (simp at k; done)
    | (cases hx; cases hy; simp at k; subst k; simp [Op.equalIn, run_und hu])
theorem snileq_sound {D : Nat} {t e : TypeId} {x y cx cy : Value} {b : Bool} (hu : P.underlying t = some (.slice e)) (k : snileq x y = some b) (hx : VRel α h.m x cx) (hy : VRel α h.m y cy) :
    (Op.equalIn (D + 1) t cx cy).run P w = .ok b w := by
  unfold snileq at k
  split at k <;> first
    | (simp at k; done)
    | (cases hx; cases hy <;> simp at k <;> subst k <;> simp [Op.equalIn, run_und hu])
theorem mnileq_sound {D : Nat} {t a e : TypeId} {x y cx cy : Value} {b : Bool} (hu : P.underlying t = some (.map a e)) (k : mnileq x y = some b) (hx : VRel α h.m x cx) (hy : VRel α h.m y cy) :
    (Op.equalIn (D + 1) t cx cy).run P w = .ok b w := by
  unfold mnileq at k
  split at k <;> first
    | (simp at k; done)
    | (cases hx; cases hy <;> simp at k <;> subst k <;> simp [Op.equalIn, run_und hu])
theorem fnileq_sound {D : Nat} {t : TypeId} {a c : Array TypeId} {q : Bool} {x y cx cy : Value} {b : Bool} (hu : P.underlying t = some (.func a c q)) (k : fnileq x y = some b) (hx : VRel α h.m x cx) (hy : VRel α h.m y cy) :
    (Op.equalIn (D + 1) t cx cy).run P w = .ok b w := by
  unfold fnileq at k
  split at k <;> first
    | (simp at k; done)
    | (cases hx; cases hy; simp at k; subst k; simp [Op.equalIn, run_und hu])

theorem aeq_sound (H : HRel α h.m B w) : ∀ (d D : Nat) (t : TypeId) (x y cx cy : Value) (b : Bool), d ≤ D → aeq P h d t x y = some b → VRel α h.m x cx → VRel α h.m y cy → (Op.equalIn D t cx cy).run P w = .ok b w := by
  intro d
  induction d with
  | zero => intro D t x y cx cy b _ k; simp [aeq] at k
  | succ d ih =>
    intro D t x y cx cy b hD k hx hy
    obtain ⟨D, rfl⟩ : ∃ n, D = n + 1 := ⟨D - 1, by omega⟩
    unfold aeq at k
    split at k
    · rename_i hu
      split at k
      · cases hx; cases hy; simp [beqb] at k; subst k; simp [Op.equalIn, run_und hu]
      · simp at k
    · rename_i hu
      split at k
      · split at k
        · rename_i hk; subst hk; cases hx; cases hy; simp [ieq] at k; subst k; simp [Op.equalIn, run_und hu]
        · simp at k
      · simp at k
    · rename_i hu
      split at k
      · cases hx; cases hy; simp only [seq, Option.some.injEq] at k; subst k
        simp only [Op.equalIn, Sem.run_bind, run_und hu, Result.andThen_ok, Sem.run_pure, beq_toListBytes]
      · simp at k
    · rename_i e hu
      cases hn : tsize P e with
      | none => simp [hn] at k
      | some n =>
        simp only [hn, Option.bind_some] at k
        split at k
        · rename_i hn0; exact peq_sound (P := P) H hu hn hn0 k hx hy
        · simp at k
    · rename_i fields hu
      split at k
      · rename_i xs ys
        split at k
        · simp at k
        · rename_i hp
          cases hx with
          | agg a ca hs hab =>
          cases hy with
          | agg b' cb hs' hab' =>
          have hu' : P.underlying t = some (.struct (P.fieldsOf t)) := by simp [Program.fieldsOf, hu]
          have hfl : P.fieldsOf t = fields := by simp [Program.fieldsOf, hu]
          rw [run_equalIn_struct w D t ca cb hu' (by simpa using hp), hfl]
          exact aeqFields_sound (P := P) (fun t x y cx cy b hq h1 h2 => ih D t x y cx cy b (by omega) hq h1 h2) (LRel.of_arr hs hab) (LRel.of_arr hs' hab') _ _ k
      · simp at k
    · rename_i hu; exact inileq_sound (P := P) hu k hx hy
    · rename_i hu; exact snileq_sound (P := P) hu k hx hy
    · rename_i hu; exact mnileq_sound (P := P) hu k hx hy
    · rename_i hu; exact fnileq_sound (P := P) hu k hx hy
    · simp at k

end
end Go.Am
