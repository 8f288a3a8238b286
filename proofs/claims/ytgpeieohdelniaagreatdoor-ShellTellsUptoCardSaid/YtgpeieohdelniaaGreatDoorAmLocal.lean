/- What an operation comes to hangs on what it may look at alone. -/
import Derived.Test.YtgpeieohdelniaaGreatDoorAmEval
namespace Go.Am
open Go

structure Sub (h g : St) : Prop where
  next : g.next = h.next
  floor : g.floor = h.floor
  get : ∀ id o, h.get id = some o → g.get id = some o

/-- What has turned in h has turned alike in g. -/
structure Moved (h h' g g' : St) : Prop where
  next : g'.next = h'.next
  le : h.next ≤ h'.next
  vis : h'.vis = h.vis
  floor : h'.floor = h.floor
  gvis : g'.vis = g.vis
  gfloor : g'.floor = g.floor
  m : ∀ id, (h'.m id = h.m id ∧ g'.m id = g.m id) ∨ (g'.m id = h'.m id ∧ (h'.m id).isSome = true ∧ ((h.next ≤ id ∧ id < h'.next) ∨ (h.vis id = true ∧ h.floor ≤ id ∧ (h.m id).isSome = true)))

variable {h h' g : St}

theorem Moved.refl (s : Sub h g) : Moved h h g g := ⟨s.next, Nat.le_refl _, rfl, rfl, rfl, rfl, fun _ => .inl ⟨rfl, rfl⟩⟩
theorem Moved.new (s : Sub h g) (o : AObj) : Moved h (h.new o) g (g.new o) := by
  refine ⟨by simp [St.new, s.next], by simp [St.new], rfl, rfl, rfl, rfl, fun id => ?_⟩
  simp only [St.new, upd, s.next]
  by_cases hid : id = h.next
  · right; simp [hid]
  · left; simp [hid]
theorem get_some {id : Nat} {o : AObj} (k : h.get id = some o) : h.vis id = true ∧ h.m id = some o := by
  unfold St.get at k; split at k
  · rename_i hv; exact ⟨hv, k⟩
  · simp at k
theorem Moved.put (s : Sub h g) {id : Nat} {o : AObj} (k : h.get id = some o) (hf : h.floor ≤ id) (o' : AObj) : Moved h (h.put id o') g (g.put id o') := by
  obtain ⟨k1, k2⟩ := get_some k
  refine ⟨by simp [St.put, s.next], by simp [St.put], rfl, rfl, rfl, rfl, fun j => ?_⟩
  simp only [St.put, upd]
  by_cases hid : j = id
  · right; subst hid; simp [k1, k2, hf]
  · left; simp [hid]

theorem Sub.row (s : Sub h g) {a : Addr} {c : List Value} (k : h.row a = some c) : g.row a = some c := by
  unfold St.row at *
  split at k <;> rename_i hg
  · rw [s.get _ _ hg]; exact k
  · rw [s.get _ _ hg]; exact k
  · simp at k
theorem Sub.ld1 (s : Sub h g) {a v : Value} (k : ld1 h a = some v) : ld1 g a = some v := by
  unfold Go.Am.ld1 at *
  split at k
  · rw [Option.bind_eq_some_iff] at k ⊢
    obtain ⟨c, hc, hv⟩ := k
    exact ⟨c, s.row hc, hv⟩
  · simp at k
theorem Sub.ldN (s : Sub h g) {n : Nat} {a v : Value} (k : ldN h n a = some v) : ldN g n a = some v := by
  unfold Go.Am.ldN at *
  split at k
  · rw [Option.bind_eq_some_iff] at k ⊢
    obtain ⟨c, hc, hv⟩ := k
    exact ⟨c, s.row hc, hv⟩
  · simp at k
theorem Sub.aload (s : Sub h g) {P : Program} {t : TypeId} {a v : Value} (k : aload P h t a = some v) : aload P g t a = some v := by
  unfold Go.Am.aload at *
  rw [Option.bind_eq_some_iff] at k ⊢
  obtain ⟨q, hq, k⟩ := k
  refine ⟨q, hq, ?_⟩
  split
  · rename_i hb; simp only [hb, if_true] at k
    rw [Option.bind_eq_some_iff] at k ⊢
    obtain ⟨n, hn, k⟩ := k
    exact ⟨n, hn, s.ldN k⟩
  · rename_i hb; simp only [hb] at k; exact s.ld1 (by simpa using k)
theorem Sub.setRow (s : Sub h g) {a : Addr} {c : List Value} (k : h.setRow a c = some h') : ∃ g', g.setRow a c = some g' ∧ Moved h h' g g' := by
  unfold St.setRow at *
  rw [s.floor]
  split at k
  · rename_i hf
    split at k <;> rename_i hg
    · split at k
      · rename_i hsp
        simp only [Option.some.injEq] at k; subst k
        exact ⟨_, by rw [if_pos hf, s.get _ _ hg]; simp [hsp], Moved.put s hg hf _⟩
      · simp at k
    · split at k
      · rename_i hsp
        simp only [Option.some.injEq] at k; subst k
        exact ⟨_, by rw [if_pos hf, s.get _ _ hg]; simp [hsp], Moved.put s hg hf _⟩
      · simp at k
    · simp at k
  · simp at k
theorem Sub.stN (s : Sub h g) {n : Nat} {v a : Value} (k : stN h n v a = some h') : ∃ g', stN g n v a = some g' ∧ Moved h h' g g' := by
  unfold Go.Am.stN at *
  split at k
  · rw [Option.bind_eq_some_iff] at k
    obtain ⟨c, hc, hv⟩ := k
    split at hv
    · rename_i hq
      obtain ⟨g', hg', hM⟩ := s.setRow hv
      exact ⟨g', by rw [s.row hc]; simp only [Option.bind_some, if_pos hq]; exact hg', hM⟩
    · simp at hv
  · simp at k
theorem Sub.astore (s : Sub h g) {P : Program} {t : TypeId} {v a : Value} (k : astore P h t a v = some h') : ∃ g', astore P g t a v = some g' ∧ Moved h h' g g' := by
  unfold Go.Am.astore at *
  rw [Option.bind_eq_some_iff] at k
  obtain ⟨n, hn, k⟩ := k
  obtain ⟨g', hg', hM⟩ := s.stN k
  exact ⟨g', by rw [hn]; exact hg', hM⟩
theorem Sub.aalloc (s : Sub h g) {P : Program} {t : TypeId} {v : Value} (k : aalloc P h t = some (v, h')) : ∃ g', aalloc P g t = some (v, g') ∧ Moved h h' g g' := by
  unfold Go.Am.aalloc at *
  rw [Option.bind_eq_some_iff] at k
  obtain ⟨z, hz, k⟩ := k
  simp only [Option.some.injEq, Prod.mk.injEq] at k
  obtain ⟨rfl, rfl⟩ := k
  exact ⟨_, by rw [hz]; simp [s.next], Moved.new s _⟩
theorem Sub.abuildSlice (s : Sub h g) {P : Program} {t : TypeId} {n : Nat} {ps : List (Nat × Value)} {v : Value} (k : abuildSlice P h t n ps = some (v, h')) : ∃ g', abuildSlice P g t n ps = some (v, g') ∧ Moved h h' g g' := by
  unfold Go.Am.abuildSlice at *
  simp only [Option.bind_eq_some_iff] at k
  obtain ⟨e, he, n', hn, z, hz, k⟩ := k
  split at k
  · rename_i hc
    rw [Option.bind_eq_some_iff] at k
    obtain ⟨cs, hcs, k⟩ := k
    simp only [Option.some.injEq, Prod.mk.injEq] at k
    obtain ⟨rfl, rfl⟩ := k
    exact ⟨_, by simp only [he, hn, hz, Option.bind_some, if_pos hc, hcs, s.next], Moved.new s _⟩
  · simp at k
theorem Sub.amakeSlice (s : Sub h g) {P : Program} {t : TypeId} {l c v : Value} (k : amakeSlice P h t l c = some (v, h')) : ∃ g', amakeSlice P g t l c = some (v, g') ∧ Moved h h' g g' := by
  unfold Go.Am.amakeSlice at *
  simp only [Option.bind_eq_some_iff] at k
  obtain ⟨e, he, n', hn, z, hz, b, hb, k⟩ := k
  split at k
  · rename_i hc
    split at k
    · unfold smake at k
      split at k
      · rename_i hq
        simp only [Option.some.injEq, Prod.mk.injEq] at k
        obtain ⟨rfl, rfl⟩ := k
        exact ⟨_, by simp only [he, hn, hz, hb, Option.bind_some, if_pos hc, smake, if_pos hq, s.next], Moved.new s _⟩
      · simp at k
    · simp at k
  · simp at k
theorem Sub.sliceRow (s : Sub h g) {size n : Nat} {v : Value} {c : List Value} (k : sliceRow h size n v = some c) : sliceRow g size n v = some c := by
  unfold Go.Am.sliceRow at *
  split at k
  · exact k
  · split at k
    · rename_i hn
      rw [if_pos hn]
      split at k
      · rename_i h0; rw [if_pos h0]; exact k
      · rename_i h0; rw [if_neg h0]
        split at k
        · rename_i hg; rw [s.get _ _ hg]; exact k
        · simp at k
    · simp at k
  · simp at k
theorem Sub.sbytes (s : Sub h g) {v : Value} {r : ByteArray} (k : sbytes h v = some r) : sbytes g v = some r := by
  unfold Go.Am.sbytes at *
  split at k
  · rw [Option.bind_eq_some_iff] at k ⊢
    obtain ⟨cs, hc, k⟩ := k
    exact ⟨cs, s.sliceRow hc, k⟩
  · simp at k
theorem Sub.rowOf (s : Sub h g) {size n : Nat} {v : Value} {c : List Value} (k : rowOf h size n v = some c) : rowOf g size n v = some c := by
  cases v <;> first
    | exact s.sliceRow k
    | exact k
theorem Sub.aappend (sb : Sub h g) {P : Program} {t : TypeId} {s x v : Value} (k : aappend P h t s x = some (v, h')) : ∃ g', aappend P g t s x = some (v, g') ∧ Moved h h' g g' := by
  unfold Go.Am.aappend at *
  simp only [Option.bind_eq_some_iff] at k
  obtain ⟨e, he, n', hn, b, hb, z, hz, k⟩ := k
  split at k
  · rename_i hc
    simp only [he, hn, hz, hb, Option.bind_some, if_pos hc]
    unfold sapp at *
    simp only [Option.bind_eq_some_iff] at k
    obtain ⟨kk, hk, new, hnew, k⟩ := k
    simp only [hk, sb.rowOf hnew, Option.bind_some]
    split at k
    · split at k
      · rename_i h0
        simp only [Option.some.injEq, Prod.mk.injEq] at k
        obtain ⟨rfl, rfl⟩ := k
        exact ⟨_, by simp only [if_pos h0], Moved.refl sb⟩
      · rename_i h0
        split at k
        · rename_i hq
          simp only [Option.some.injEq, Prod.mk.injEq] at k
          obtain ⟨rfl, rfl⟩ := k
          exact ⟨_, by simp only [if_neg h0, if_pos hq, sb.next], Moved.new sb _⟩
        · simp at k
    · split at k
      · rename_i h0
        simp only [Option.some.injEq, Prod.mk.injEq] at k
        obtain ⟨rfl, rfl⟩ := k
        exact ⟨_, by simp only [if_pos h0], Moved.refl sb⟩
      · rename_i h0
        split at k
        · rename_i hq
          split at k
          · rename_i hg
            split at k
            · rename_i hq2
              simp only [Option.some.injEq, Prod.mk.injEq] at k
              obtain ⟨rfl, rfl⟩ := k
              exact ⟨_, by simp only [if_neg h0, sb.floor, if_pos hq, sb.get _ _ hg, if_pos hq2], Moved.put sb hg hq.2.2.2.1 _⟩
            · simp at k
          · simp at k
        · simp at k
    · simp at k
  · simp at k
theorem Sub.acopy (sb : Sub h g) {P : Program} {t : TypeId} {d x v : Value} (k : acopy P h t d x = some (v, h')) : ∃ g', acopy P g t d x = some (v, g') ∧ Moved h h' g g' := by
  unfold Go.Am.acopy at *
  simp only [Option.bind_eq_some_iff] at k
  obtain ⟨e, he, n', hn, k⟩ := k
  simp only [he, hn, Option.bind_some]
  unfold scopy at *
  simp only [Option.bind_eq_some_iff] at k
  obtain ⟨kk, hk, k⟩ := k
  simp only [hk, Option.bind_some]
  split at k
  · split at k
    · rename_i h0
      simp only [Option.some.injEq, Prod.mk.injEq] at k
      obtain ⟨rfl, rfl⟩ := k
      exact ⟨_, by simp only [if_pos h0], Moved.refl sb⟩
    · rename_i h0
      split at k
      · rename_i hq
        split at k
        · rename_i hg
          rw [Option.bind_eq_some_iff] at k
          obtain ⟨src, hsrc, k⟩ := k
          split at k
          · rename_i hq2
            rw [Option.bind_eq_some_iff] at k
            obtain ⟨h2, hh2, k⟩ := k
            simp only [Option.some.injEq, Prod.mk.injEq] at k
            obtain ⟨rfl, rfl⟩ := k
            obtain ⟨g', hg', hM⟩ := sb.setRow hh2
            exact ⟨g', by simp only [if_neg h0, if_pos hq, sb.get _ _ hg, sb.rowOf hsrc, Option.bind_some, if_pos hq2, hg'], hM⟩
          · simp at k
        · simp at k
      · simp at k
  · simp only [Option.some.injEq, Prod.mk.injEq] at k
    obtain ⟨rfl, rfl⟩ := k
    exact ⟨_, rfl, Moved.refl sb⟩
  · simp at k
theorem Sub.aclear (sb : Sub h g) {P : Program} {t : TypeId} {d : Value} (k : aclear P h t d = some h') : ∃ g', aclear P g t d = some g' ∧ Moved h h' g g' := by
  unfold Go.Am.aclear at *
  simp only [Option.bind_eq_some_iff] at k
  obtain ⟨e, he, n', hn, z, hz, k⟩ := k
  simp only [he, hn, hz, Option.bind_some]
  unfold sclear at *
  split at k
  · simp only [Option.some.injEq] at k; subst k
    exact ⟨_, rfl, Moved.refl sb⟩
  · split at k
    · rename_i h0
      simp only [Option.some.injEq] at k; subst k
      exact ⟨_, by simp only [if_pos h0], Moved.refl sb⟩
    · rename_i h0
      split at k
      · rename_i hq
        split at k
        · rename_i hg
          split at k
          · rename_i hq2
            obtain ⟨g', hg', hM⟩ := sb.setRow k
            exact ⟨g', by simp only [if_neg h0, if_pos hq, sb.get _ _ hg, if_pos hq2, hg'], hM⟩
          · simp at k
        · simp at k
      · simp at k
  · simp at k
theorem Sub.alen (sb : Sub h g) {P : Program} {t : TypeId} {x v : Value} (k : alen P h t x = some v) : alen P g t x = some v := by
  unfold Go.Am.alen at *
  split at k
  · exact k
  · exact k
  · exact k
  · obtain ⟨n, hn, k⟩ := Option.bind_eq_some_iff.1 k
    refine Option.bind_eq_some_iff.2 ⟨n, ?_, k⟩
    unfold maplen at *
    split at hn
    · exact hn
    · split at hn
      · rename_i hg; rw [sb.get _ _ hg]; exact hn
      · simp at hn
    · simp at hn
  · simp at k
theorem Sub.aslice (sb : Sub h g) {P : Program} {t : TypeId} {x v : Value} {lo hi : Option Value} (k : aslice P h t x lo hi = some v) : aslice P g t x lo hi = some v := by
  unfold Go.Am.aslice at *
  split at k
  · exact k
  · rw [Option.bind_eq_some_iff] at k ⊢
    obtain ⟨n, hn, k⟩ := k
    refine ⟨n, hn, ?_⟩
    unfold scut at *
    split at k
    · exact k
    · simp only [Option.bind_eq_some_iff] at k ⊢
      obtain ⟨i, hi, j, hj, k⟩ := k
      refine ⟨i, hi, j, hj, ?_⟩
      split at k
      · rename_i hg; rw [sb.get _ _ hg]; exact k
      · simp at k
    · simp at k
  · simp at k
theorem Sub.mapOf (sb : Sub h g) {x : Value} {es : List (Value × Value)} (k : mapOf h x = some es) : mapOf g x = some es := by
  unfold Go.Am.mapOf at *
  split at k
  · exact k
  · split at k
    · rename_i hg; rw [sb.get _ _ hg]; exact k
    · simp at k
  · simp at k
theorem Sub.alookup (sb : Sub h g) {P : Program} {t : TypeId} {x kk v : Value} {ok : Bool} (k : alookup P h t x kk ok = some v) : alookup P g t x kk ok = some v := by
  unfold Go.Am.alookup at *
  split at k
  · simp only [Option.bind_eq_some_iff] at k ⊢
    obtain ⟨d, hd, z, hz, k⟩ := k
    refine ⟨d, hd, z, hz, ?_⟩
    split at k
    · rename_i hp
      rw [if_pos hp]
      obtain ⟨r, hr, k⟩ := Option.bind_eq_some_iff.1 k
      refine Option.bind_eq_some_iff.2 ⟨r, ?_, k⟩
      unfold mlookD mlook at *
      obtain ⟨q, hq, hr⟩ := Option.bind_eq_some_iff.1 hr
      refine Option.bind_eq_some_iff.2 ⟨q, ?_, hr⟩
      split at hq
      · rename_i hf
        rw [if_pos hf]
        obtain ⟨es, hes, hq⟩ := Option.bind_eq_some_iff.1 hq
        exact Option.bind_eq_some_iff.2 ⟨es, sb.mapOf hes, hq⟩
      · simp at hq
    · simp at k
  · simp at k
theorem Sub.amapUpdate (sb : Sub h g) {P : Program} {t : TypeId} {x kk v : Value} (k : amapUpdate P h t x kk v = some h') : ∃ g', amapUpdate P g t x kk v = some g' ∧ Moved h h' g g' := by
  unfold Go.Am.amapUpdate at *
  split at k
  · rw [Option.bind_eq_some_iff] at k
    obtain ⟨d, hd, k⟩ := k
    simp only [hd, Option.bind_some]
    split at k
    · rename_i hp
      rw [if_pos hp]
      unfold mput at *
      split at k
      · split at k
        · rename_i hq
          split at k
          · rename_i hg
            rw [Option.bind_eq_some_iff] at k
            obtain ⟨q, hfa, k⟩ := k
            split at k
            · simp only [Option.some.injEq] at k; subst k
              exact ⟨_, by simp only [sb.floor, if_pos hq, sb.get _ _ hg, hfa, Option.bind_some], Moved.put sb hg hq.2 _⟩
            · simp only [Option.some.injEq] at k; subst k
              exact ⟨_, by simp only [sb.floor, if_pos hq, sb.get _ _ hg, hfa, Option.bind_some], Moved.put sb hg hq.2 _⟩
          · simp at k
        · simp at k
      · simp at k
    · simp at k
  · simp at k
theorem Sub.peq (sb : Sub h g) {x y : Value} {b : Bool} (k : peq h x y = some b) : peq g x y = some b := by
  unfold Go.Am.peq at *
  split at k
  · exact k
  · exact k
  · split at k
    · rename_i h1 h2; rw [sb.get _ _ h1, sb.get _ _ h2]; exact k
    · simp at k
  · simp at k
theorem Sub.aeqFields {eq eq' : TypeId → Value → Value → Option Bool} (ih : ∀ t x y b, eq t x y = some b → eq' t x y = some b) {P : Program} {xs ys : Array Value} : ∀ (fs : List Field) (b : Bool), aeqFields P eq xs ys fs = some b → aeqFields P eq' xs ys fs = some b := by
  intro fs
  induction fs with
  | nil => intro b k; exact k
  | cons f fs ihf =>
    intro b k
    simp only [Go.Am.aeqFields] at *
    split at k
    · rename_i hn; rw [if_pos hn]; exact ihf b k
    · rename_i hn; rw [if_neg hn]
      simp only [obind, Option.bind_eq_some_iff] at k ⊢
      obtain ⟨u, hu, v, hv, q, hq, r, hr, k⟩ := k
      exact ⟨u, hu, v, hv, q, ih _ _ _ _ hq, r, ihf _ hr, k⟩
theorem Sub.aeq (sb : Sub h g) {P : Program} : ∀ (d : Nat) (t : TypeId) (x y : Value) (b : Bool), aeq P h d t x y = some b → aeq P g d t x y = some b := by
  intro d
  induction d with
  | zero => intro t x y b k; simp [Go.Am.aeq] at k
  | succ d ih =>
    intro t x y b k
    unfold Go.Am.aeq at k ⊢
    split at k
    · exact k
    · exact k
    · exact k
    · rw [Option.bind_eq_some_iff] at k ⊢
      obtain ⟨n, hn, k⟩ := k
      refine ⟨n, hn, ?_⟩
      split at k
      · rename_i h0; rw [if_pos h0]; exact sb.peq k
      · simp at k
    · split at k
      · split at k
        · simp at k
        · rename_i hp; rw [if_neg hp]; exact Sub.aeqFields (eq := Go.Am.aeq P h d) (eq' := Go.Am.aeq P g d) (fun t x y b => ih t x y b) _ _ k
      · simp at k
    · exact k
    · exact k
    · exact k
    · exact k
    · simp at k
theorem Sub.aeql (sb : Sub h g) {P : Program} {t : TypeId} {x y : Operand} {a b : Value} {r : Bool} (k : aeql P h t x y a b = some r) : aeql P g t x y a b = some r := by
  unfold Go.Am.aeql at *
  split at k
  · simp at k
  · simp at k
  · simp at k
  · simp at k
  · simp at k
  · split at k
    · rename_i hq; simp only [hq, if_true]; exact sb.aeq _ _ _ _ _ k
    · simp at k
theorem Sub.abin (sb : Sub h g) {P : Program} {op : BinOp} {t : TypeId} {x y : Operand} {a b v : Value} (k : abin P h op t x y a b = some v) : abin P g op t x y a b = some v := by
  unfold Go.Am.abin at *
  split at k
  · exact k
  · exact k
  · exact k
  · exact k
  · obtain ⟨r, hr, k⟩ := Option.bind_eq_some_iff.1 k; exact Option.bind_eq_some_iff.2 ⟨r, sb.aeql hr, k⟩
  · obtain ⟨r, hr, k⟩ := Option.bind_eq_some_iff.1 k; exact Option.bind_eq_some_iff.2 ⟨r, sb.aeql hr, k⟩
  · simp at k

end Go.Am
