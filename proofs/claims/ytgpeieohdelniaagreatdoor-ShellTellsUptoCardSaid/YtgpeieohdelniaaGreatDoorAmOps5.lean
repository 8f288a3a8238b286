/- Fields, elements, parts, maps, operators. -/
import Derived.Test.YtgpeieohdelniaaGreatDoorAmOps4
import Derived.Laws.StructEq
namespace Go.Am
open Go Go.RowKit

section
variable {P : Program} {α : Corr} {h h' : St} {B : Nat} {w : World}

theorem VRel.padd {m : Mem} {a ca : Addr} (k : VRel α m (.pointer (some a)) (.pointer (some ca))) (n : Nat) : VRel α m (.pointer (some (aadd a n))) (.pointer (some (ca.add n))) := by
  cases k with
  | pcell id off ro c hm => rw [addr_add, Nat.add_assoc]; exact .pcell _ _ _ _ hm
  | pelem id off gs ro e g c ca hm hg hl =>
    refine .pelem _ _ _ _ _ _ _ _ hm hg fun e => ?_
    rw [hl e, addr_add, Nat.add_assoc]

theorem tfield_und {t : TypeId} {f : Nat} {fd : Field} (k : tfield P t f = some fd) : ∃ fs, P.underlying t = some (.struct fs) ∧ fs[f]? = some fd := by
  unfold tfield at k
  split at k
  · rename_i fs hu; exact ⟨fs, hu, k⟩
  · simp at k

theorem afieldAddr_sound {t : TypeId} {x cx v : Value} {f : Nat} (k : afieldAddr P t x f = some v) (hx : VRel α h.m x cx) : PureOut P α h.m w (Instr.fieldAt t cx f) v := by
  unfold afieldAddr at k
  cases hf : tfield P t f with
  | none => simp [hf] at k
  | some fd =>
  cases hn : tsize P fd.type with
  | none => simp [hf, hn] at k
  | some n =>
  simp only [hf, hn, Option.bind_some] at k
  obtain ⟨fs, hu, hfs⟩ := tfield_und hf
  split at k
  · rename_i a
    split at k
    · rename_i hn0
      simp only [Option.some.injEq] at k; subst k
      have hx0 := hx
      cases hx with
      | pcell id off ro c hm =>
        exact ⟨_, by simp [Instr.fieldAt, Instr.sureAddr, fieldPlace, run_und hu, hfs, run_tsize hn, hn0], hx0.padd _⟩
      | pelem id off gs ro e g c ca hm hg hl =>
        exact ⟨_, by simp [Instr.fieldAt, Instr.sureAddr, fieldPlace, run_und hu, hfs, run_tsize hn, hn0], hx0.padd _⟩
    · simp at k
  · simp at k

theorem apart_sound {t : TypeId} {cs ccs : Array Value} {off : Nat} {v : Value} (k : apart P t cs off = some v) (hc : LRel α h.m cs.toList ccs.toList) : PureOut P α h.m w (part t ccs off) v := by
  unfold apart at k
  cases ht : tagg P t with
  | none => simp [ht] at k
  | some g =>
    simp only [ht, Option.bind_some] at k
    cases g with
    | true =>
      cases hn : tsize P t with
      | none => simp [hn] at k
      | some n =>
        simp only [if_true, hn, Option.bind_some, Option.some.injEq] at k; subst k
        refine ⟨.agg (ccs.extract off (off + n)), by simp [part, run_tagg ht, run_tsize hn], LRel.agg' ?_⟩
        have := (hc.drop off).take n
        simp only [Array.toList_extract, List.extract_eq_take_drop, Nat.add_sub_cancel_left]
        exact this
    | false =>
      simp only [Bool.false_eq_true, if_false] at k
      obtain ⟨x, hx, r⟩ := hc.2 off v (by simpa using k)
      exact ⟨x, by rw [Array.getElem?_toList] at hx; simp [part, run_tagg ht, hx], r⟩

theorem afield_sound {t : TypeId} {x cx v : Value} {f : Nat} (k : afield P t x f = some v) (hx : VRel α h.m x cx) : PureOut P α h.m w (Instr.field t cx f) v := by
  unfold afield at k
  cases hf : tfield P t f with
  | none => simp [hf] at k
  | some fd =>
    simp only [hf, Option.bind_some] at k
    obtain ⟨fs, hu, hfs⟩ := tfield_und hf
    split at k
    · cases hx with
      | agg a b hs hab =>
        obtain ⟨cv, hr, hv⟩ := apart_sound (P := P) (w := w) k (LRel.of_arr hs hab)
        exact ⟨cv, by simp [Instr.field, run_und hu, hfs, asAgg, hr], hv⟩
    · simp at k

theorem aindexAddr_sound {t : TypeId} {x cx i ci v : Value} (k : aindexAddr P t x i = some v) (hx : VRel α h.m x cx) (hi : VRel α h.m i ci) : PureOut P α h.m w (Instr.indexAt t cx ci) v := by
  unfold aindexAddr at k
  split at k
  · rename_i e hu
    cases hn : tsize P e with
    | none => simp [hn] at k
    | some n =>
    simp only [hn, Option.bind_some] at k
    split at k
    · rename_i ki j
      cases hi
      unfold sidx at k
      split at k
      · rename_i a len g
        split at k
        · rename_i hc
          obtain ⟨h0, h1, hsp⟩ := hc
          simp only [Option.some.injEq] at k; subst k
          cases hx with
          | slice id off len gs ro e' g' c ca cap hm hg hcap hl =>
            refine ⟨.pointer (some (ca.add (j.toNat * n))), by simp [Instr.indexAt, asIntOf, run_und hu, h0, h1, run_tsize hn], ?_⟩
            refine .pelem _ _ _ _ _ _ _ _ hm hg fun e => ?_
            rw [(hl e).2.1 (by omega), addr_add, Nat.add_assoc]
        · simp at k
      · simp at k
    · simp at k
  · rename_i len e hu
    cases hn : tsize P e with
    | none => simp [hn] at k
    | some n =>
    simp only [hn, Option.bind_some] at k
    split at k
    · rename_i ki j
      cases hi
      unfold aidx at k
      split at k
      · rename_i a
        split at k
        · rename_i hc
          obtain ⟨h0, h1⟩ := hc
          simp only [Option.some.injEq] at k; subst k
          have hx0 := hx
          cases hx with
          | pcell id off ro c hm => exact ⟨_, by simp [Instr.indexAt, asIntOf, Instr.sureAddr, run_und hu, h0, h1, run_tsize hn], hx0.padd _⟩
          | pelem id off gs ro e g c ca hm hg hl => exact ⟨_, by simp [Instr.indexAt, asIntOf, Instr.sureAddr, run_und hu, h0, h1, run_tsize hn], hx0.padd _⟩
        · simp at k
      · simp at k
    · simp at k
  · simp at k

theorem aindex_sound {t : TypeId} {x cx i ci v : Value} (k : aindex P t x i = some v) (hx : VRel α h.m x cx) (hi : VRel α h.m i ci) : PureOut P α h.m w (Instr.index t cx ci) v := by
  unfold aindex at k
  split at k
  · rename_i len e cs ki j hu
    cases hi
    cases hn : tsize P e with
    | none => simp [hn] at k
    | some n =>
    simp only [hn, Option.bind_some] at k
    split at k
    · rename_i hc
      cases hx with
      | agg a b hs hab =>
        obtain ⟨cv, hr, hv⟩ := apart_sound (P := P) (w := w) k (LRel.of_arr hs hab)
        exact ⟨cv, by simp [Instr.index, asIntOf, run_und hu, hc.1, hc.2, run_tsize hn, hr], hv⟩
    · simp at k
  · rename_i s ki j hu
    cases hi; cases hx
    unfold strAt at k
    split at k
    · rename_i hc
      cases hs : s[j.toNat]? with
      | none => simp [hs] at k
      | some b =>
        simp only [hs, Option.map_some, Option.bind_some, Option.some.injEq] at k; subst k
        exact ⟨_, by simp [Instr.index, asIntOf, run_und hu, hc.1, hs], .int _ _⟩
    · simp at k
  · simp at k

theorem mapM_sizes {fs : List Field} : ∀ {places : List (Nat × Nat)}, (fs.mapM fun f => (tsize P f.type).map fun n => (f.offset, n)) = some places →
    (fs.mapM (m := Sem) fun f => do pure (f.offset, ← sizeOf f.type)).run P w = .ok places w := by
  induction fs with
  | nil => intro places k; simp at k; subst k; simp
  | cons f fs ih =>
    intro places k
    simp only [List.mapM_cons] at k ⊢
    cases hn : tsize P f.type with
    | none => simp [hn] at k
    | some n =>
      cases hr : (fs.mapM fun f => (tsize P f.type).map fun n => (f.offset, n)) with
      | none => simp [hn, hr] at k
      | some r =>
        simp only [hn, hr, Option.map_some] at k
        have : places = (f.offset, n) :: r := by simpa using k.symm
        subst this
        simp only [Sem.run_bind, run_tsize hn, Result.andThen_ok, ih hr, Sem.run_pure]

theorem abuild_sound {t : TypeId} {parts cparts : List (Nat × Value)} {v : Value} (k : abuild P t parts = some v)
    (hl : parts.length = cparts.length) (hp : ∀ (i : Nat) (p q : Nat × Value), parts[i]? = some p → cparts[i]? = some q → p.1 = q.1 ∧ VRel α h.m p.2 q.2) :
    PureOut P α h.m w (Instr.build t cparts.toArray) v := by
  unfold abuild at k
  cases hz : tzero P t with
  | none => simp [hz] at k
  | some z =>
    simp only [hz, Option.bind_some] at k
    have hzr := run_tzero (w := w) hz
    have hzL : LRel α h.m z.cells.toList z.cells.toList := LRel.flat (zero_cells_flat hzr.2)
    split at k
    · rename_i fields hu
      cases hpl : (fields.toList.mapM fun f => (tsize P f.type).map fun n => (f.offset, n)) with
      | none => simp [hpl] at k
      | some places =>
        simp only [hpl, Option.bind_some] at k
        cases hf : Instr.fill (fun i => places[i]?) z.cells parts with
        | none => simp [hf] at k
        | some r =>
          simp only [hf, Option.bind_some, Option.some.injEq] at k; subst k
          obtain ⟨r', hr', hR⟩ := fill_rel (α := α) (m := h.m) parts cparts _ _ r hl hp hzL hf
          refine ⟨.agg r', ?_, LRel.agg' hR⟩
          have hm := mapM_sizes (P := P) (w := w) hpl
          have hm' : (fields.mapM (m := Sem) fun f => do pure (f.offset, ← sizeOf f.type)).run P w = .ok places.toArray w := by
            rw [Array.mapM_eq_mapM_toList]
            simp only [Sem.run_map, hm, Result.andThen_ok]
          simp only [Instr.build, Sem.run_bind, hzr.1, Result.andThen_ok, run_und hu, hm', List.getElem?_toArray, hr', Sem.run_pure]
    · rename_i len elem hu
      cases hn : tsize P elem with
      | none => simp [hn] at k
      | some n =>
        simp only [hn, Option.bind_some] at k
        cases hf : Instr.fill (fun i => some (i * n, n)) z.cells parts with
        | none => simp [hf] at k
        | some r =>
          simp only [hf, Option.bind_some, Option.some.injEq] at k; subst k
          obtain ⟨r', hr', hR⟩ := fill_rel (α := α) (m := h.m) parts cparts _ _ r hl hp hzL hf
          refine ⟨.agg r', ?_, LRel.agg' hR⟩
          simp only [Instr.build, Sem.run_bind, hzr.1, Result.andThen_ok, run_und hu, run_tsize hn, hr', Sem.run_pure]
    · simp at k

/-! maps -/
theorem findAt_sound {d : TypeDesc} {kk : Value} {m : Mem} : ∀ (es : List (Value × Value)) (cs : List MapEntry) (i : Nat) (r : Option (Nat × Value)), findAt d kk es i = some r → es.length = cs.length →
    (∀ (j : Nat) (a b : Value), es[j]? = some (a, b) → ∃ e : MapEntry, cs[j]? = some e ∧ e.key = a ∧ VRel α m b e.val) →
    (∃ r', Instr.findNow d kk cs i = some r' ∧ ((r = none ∧ r' = none) ∨ ∃ j v v', r = some (j, v) ∧ r' = some (j, v') ∧ VRel α m v v' ∧ i ≤ j ∧ ∃ e : MapEntry, cs[j - i]? = some e ∧ Instr.sameNow d kk e.key = some true)) := by
  intro es
  induction es with
  | nil =>
    intro cs i r k hl hR
    cases cs with
    | nil => simp [findAt] at k; subst k; exact ⟨none, rfl, .inl ⟨rfl, rfl⟩⟩
    | cons c cs => simp at hl
  | cons e es ih =>
    intro cs i r k hl hR
    cases cs with
    | nil => simp at hl
    | cons c cs =>
      obtain ⟨a, b⟩ := e
      obtain ⟨e', he', hk, hv⟩ := hR 0 a b rfl
      simp at he'; subst he'
      simp only [findAt] at k
      simp only [Instr.findNow, hk]
      cases hs : Instr.sameNow d kk a with
      | none => simp [hs] at k
      | some q =>
        cases q with
        | true =>
          simp only [hs, Option.some.injEq] at k; subst k
          exact ⟨_, rfl, .inr ⟨i, b, c.val, rfl, rfl, hv, Nat.le_refl _, c, by simp, by rw [hk]; exact hs⟩⟩
        | false =>
          simp only [hs] at k ⊢
          obtain ⟨r', h1, h2⟩ := ih cs (i + 1) r k (by simpa using hl) (fun j a b hj => hR (j + 1) a b (by simpa using hj))
          refine ⟨r', h1, ?_⟩
          rcases h2 with h2 | ⟨j, v, v', e1, e2, e3, e4, c', e5, e6⟩
          · exact .inl h2
          · refine .inr ⟨j, v, v', e1, e2, e3, by omega, c', ?_, e6⟩
            have : j - i = (j - (i + 1)) + 1 := by omega
            rw [this]; simpa using e5

theorem checkKey_plain {d : TypeDesc} {t : TypeId} {n : Nat} {v : Value} {b : Bool} (hu : P.underlying t = some d) (hp : plainKey d = true) : (Instr.checkKey b (n + 1) t v).run P w = .ok () w := by
  simp only [Instr.checkKey, Sem.run_bind, run_und hu, Result.andThen_ok]
  cases d <;> simp [plainKey] at hp <;> rfl

theorem run_findKey {key : TypeId} {d : TypeDesc} {ck : Value} {l : List MapEntry} {r : Option (Nat × Value)} (hd : P.underlying key = some d) (hf : Instr.findNow d ck l 0 = some r) :
    (Instr.findKey key ck l).run P w = .ok r w := by simp [Instr.findKey, run_und hd, hf]

theorem alookup_sound {t : TypeId} {x cx kk ck v : Value} {ok : Bool} (k : alookup P h t x kk ok = some v) (H : HRel α h.m B w) (hx : VRel α h.m x cx) (hk : VRel α h.m kk ck) :
    PureOut P α h.m w (Instr.lookup t cx ck ok) v := by
  unfold alookup at k
  split at k
  · rename_i key elem hu
    cases hd : P.underlying key with
    | none => simp [hd] at k
    | some d =>
    cases hz : tzero P elem with
    | none => simp [hd, hz] at k
    | some z =>
    simp only [hd, hz, Option.bind_some] at k
    split at k
    · rename_i hp
      obtain ⟨⟨u0, q0⟩, hD, hv0⟩ := Option.bind_eq_some_iff.1 k
      unfold mlookD at hD
      obtain ⟨r0, hM, hr0⟩ := Option.bind_eq_some_iff.1 hD
      clear k hD
      unfold mlook at hM
      split at hM
      case isFalse => simp at hM
      rename_i hfl
      obtain rfl := flat_eq hk 4 hfl
      have hzr := run_tzero (w := w) hz
      have hzv : VRel α h.m z z := flat_rel α h.m 4 z hzr.2
      have htup : ∀ (a b : Value) (q : Bool), VRel α h.m a b → VRel α h.m (if ok then .tuple #[a, .bool q] else a) (if ok then .tuple #[b, .bool q] else b) := fun a b q hab => by
        cases ok
        · simpa using hab
        · simp only [if_true]
          have : LRel α h.m [a, .bool q] [b, .bool q] := LRel.cons hab (LRel.cons (.bool q) (LRel.nil _ _))
          exact LRel.tuple' (a := #[a, .bool q]) (b := #[b, .bool q]) this
      cases hm : mapOf h x with
      | none => simp [hm] at hM
      | some es =>
      cases hfa : findAt d ck es 0 with
      | none => simp [hm, hfa] at hM
      | some r =>
      simp only [hm, hfa, Option.bind_some, Option.some.injEq] at hM
      subst hM
      have k : (match r with
          | some (_, v) => some (if ok then .tuple #[v, .bool true] else v)
          | none => some (if ok then .tuple #[z, .bool false] else z)) = some v := by
        cases r with
        | none => simp only [Option.some.injEq, Prod.mk.injEq] at hr0; obtain ⟨rfl, rfl⟩ := hr0; exact hv0
        | some q => obtain ⟨i, v'⟩ := q; simp only [Option.some.injEq, Prod.mk.injEq] at hr0; obtain ⟨rfl, rfl⟩ := hr0; exact hv0
      have fin : ∀ (ces : Array MapEntry), es.length = ces.toList.length → (∀ (j : Nat) (a b : Value), es[j]? = some (a, b) → ∃ e : MapEntry, ces.toList[j]? = some e ∧ e.key = a ∧ VRel α h.m b e.val) →
          ∃ r' : Option (Nat × Value), (Instr.findKey key ck ces.toList).run P w = .ok r' w ∧ (match r' with
            | some (_, x) => VRel α h.m v (if ok then .tuple #[x, .bool true] else x)
            | none => VRel α h.m v (if ok then .tuple #[z, .bool false] else z)) := fun ces hl hR => by
        obtain ⟨r', hfn, hcase⟩ := findAt_sound es ces.toList 0 r hfa hl hR
        refine ⟨r', run_findKey hd hfn, ?_⟩
        rcases hcase with ⟨rfl, rfl⟩ | ⟨j, u, u', rfl, rfl, huv, _⟩
        · simp only [Option.some.injEq] at k; subst k; exact htup _ _ _ hzv
        · simp only [Option.some.injEq] at k; subst k; exact htup _ _ _ huv
      cases hx with
      | mnil =>
        simp [mapOf] at hm; subst hm
        obtain ⟨r', hr, hv⟩ := fin #[] rfl (fun j a b hj => by simp at hj)
        cases r' with
        | none => exact ⟨_, by simp [Instr.lookup, run_und hu, checkKey_plain hd hp, hr, hzr.1], hv⟩
        | some q => exact ⟨_, by simp [Instr.lookup, run_und hu, checkKey_plain hd hp, hr], hv⟩
      | map id ro es' hm' =>
        simp only [mapOf] at hm
        split at hm
        · rename_i ro2 es2 hg
          simp only [Option.some.injEq] at hm; subst hm
          have hm2 := St.get_m hg
          rw [hm'] at hm2; simp at hm2
          obtain ⟨rfl, rfl⟩ := hm2
          obtain ⟨ces, clk, hb, hsz, hR, _⟩ := H.obj _ _ hm'
          have hgo : (getObj (α.blk id)).run P w = .ok (.map ces clk) w := by simp [getObj, Sem.run, hb]
          obtain ⟨r', hr, hv⟩ := fin ces (by simp [hsz]) (fun j a b hj => by rw [Array.getElem?_toList]; exact hR j a b hj)
          cases r' with
          | none => exact ⟨_, by simp [Instr.lookup, run_und hu, hgo, checkKey_plain hd hp, hr, hzr.1], hv⟩
          | some q => exact ⟨_, by simp [Instr.lookup, run_und hu, hgo, checkKey_plain hd hp, hr], hv⟩
        · simp at hm
      | _ => simp [mapOf] at hm
    · simp at k
  · simp at k

theorem sameNow_bits {d : TypeDesc} {a b : Value} (hs : Instr.sameNow d a b = some true) : Instr.sameBits 10000 b a = true := by
  unfold Instr.sameNow at hs
  split at hs
  · split at hs
    · rename_i k a k' b hk; subst hk; simp at hs; subst hs; simp [Instr.sameBits]
    · simp at hs
  · rename_i a b
    simp only [Option.some.injEq] at hs
    rw [beq_toListBytes] at hs
    simp only [Instr.sameBits]
    rw [beq_toListBytes]
    simp only [beq_iff_eq] at hs ⊢
    exact hs.symm
  · simp at hs; subst hs; simp [Instr.sameBits]
  · simp at hs

theorem amapUpdate_sound {t : TypeId} {x cx kk ck v cv : Value} (k : amapUpdate P h t x kk v = some h') (H : HRel α h.m B w) (hx : VRel α h.m x cx) (hk : VRel α h.m kk ck) (hv : VRel α h.m v cv) :
    UnitOut P α h B w (Instr.mapUpdate t cx ck cv) h' := by
  unfold amapUpdate at k
  split at k
  · rename_i key elem hu
    cases hd : P.underlying key with
    | none => simp [hd] at k
    | some d =>
    simp only [hd, Option.bind_some] at k
    split at k
    case isFalse => simp at k
    rename_i hp
    unfold mput at k
    split at k
    case h_2 => simp at k
    rename_i r
    split at k
    · rename_i hfl
      obtain ⟨hfl, hfloor⟩ := hfl
      obtain rfl := flat_eq hk 4 hfl
      split at k
      · rename_i es hg
        have hm := St.get_m hg
        cases hfa : findAt d ck es 0 with
        | none => simp [hfa] at k
        | some q =>
        simp only [hfa, Option.bind_some] at k
        cases hx with
        | map id ro es' hm' =>
          obtain ⟨ces, clk, hb, hsz, hR, hro⟩ := H.obj _ _ hm
          have hB := hro rfl
          have hlt : α.blk r < w.heap.size := (Array.getElem?_eq_some_iff.1 hb).1
          have hgo : (getObj (α.blk r)).run P w = .ok (.map ces clk) w := by simp [getObj, Sem.run, hb]
          have hso : ∀ o, (setObj (α.blk r) o).run P w = .ok () { w with heap := w.heap.setIfInBounds (α.blk r) o } := fun o => by simp [setObj, Sem.run, hb]
          have hT : ∀ o, Turned w { w with heap := w.heap.setIfInBounds (α.blk r) o } (α.blk r) o := fun o =>
            ⟨by simp [hlt], fun k hk => by simp [Array.getElem?_setIfInBounds, Ne.symm hk], by simp, rfl, rfl, rfl⟩
          obtain ⟨r', hfn, hcase⟩ := findAt_sound es ces.toList 0 q hfa (by simp [hsz]) (fun j a b hj => by rw [Array.getElem?_toList]; exact hR j a b hj)
          have hself := Corr.at_self α r
          rcases hcase with ⟨rfl, rfl⟩ | ⟨j, u, u', rfl, rfl, huv, _, e, he, hsame⟩
          · simp only [Option.some.injEq] at k; subst k
            have := H.turned (o' := .map false (es ++ [(ck, v)])) hm rfl rfl (hT (.map (ces.push { key := ck, val := cv, born := clk }) (clk + 1))) (α.off r) (α.room r) (by rw [hself]; exact ⟨rfl, rfl⟩)
              (fun m' hle => by
                rw [hself] at hle ⊢
                refine ⟨_, _, (hT _).here, by simp [hsz], fun i a b hi => ?_, fun _ => hB⟩
                rw [List.getElem?_append] at hi
                split at hi
                · rename_i hlt'
                  obtain ⟨e, h1, h2, h3⟩ := hR i a b hi
                  refine ⟨e, ?_, h2, h3.mono hle⟩
                  rw [Array.getElem?_push, if_neg (by omega)]; exact h1
                · rename_i hge
                  have h0 : i - es.length = 0 := by
                    rcases Nat.eq_zero_or_pos (i - es.length) with h | h
                    · exact h
                    · rw [List.getElem?_eq_none (by simp; omega)] at hi; simp at hi
                  rw [h0] at hi; simp at hi
                  obtain ⟨rfl, rfl⟩ := hi
                  refine ⟨{ key := ck, val := cv, born := clk }, ?_, rfl, hv.mono hle⟩
                  rw [Array.getElem?_push, if_pos (by omega)])
            rw [hself] at this
            exact ⟨α, _, by simp [Instr.mapUpdate, run_und hu, hgo, checkKey_plain hd hp, run_findKey hd hfn]; exact hso _, this.1, this.2, (hT _).below hB⟩
          · simp only [Option.some.injEq] at k; subst k
            simp only [Nat.sub_zero, Array.getElem?_toList] at he
            have hsb := sameNow_bits hsame
            have hks : (Instr.keyThatStays e.key ck).run P w = .ok ck w := by simp [Instr.keyThatStays, hsb]
            have := H.turned (o' := .map false (es.set j (ck, v))) hm rfl rfl (hT (.map (ces.modify j fun e => { e with key := ck, val := cv }) clk)) (α.off r) (α.room r) (by rw [hself]; exact ⟨rfl, rfl⟩)
              (fun m' hle => by
                rw [hself] at hle ⊢
                refine ⟨_, _, (hT _).here, by simp [hsz], fun i a b hi => ?_, fun _ => hB⟩
                rw [List.getElem?_set] at hi
                by_cases hij : j = i
                · subst hij
                  rw [if_pos rfl] at hi
                  split at hi
                  · simp at hi; obtain ⟨rfl, rfl⟩ := hi
                    exact ⟨{ e with key := ck, val := cv }, by simp [Array.getElem?_modify, he], rfl, hv.mono hle⟩
                  · simp at hi
                · rw [if_neg hij] at hi
                  obtain ⟨e', h1, h2, h3⟩ := hR i a b hi
                  exact ⟨e', by simp [Array.getElem?_modify, hij, h1], h2, h3.mono hle⟩)
            rw [hself] at this
            exact ⟨α, _, by simp [Instr.mapUpdate, run_und hu, hgo, checkKey_plain hd hp, run_findKey hd hfn, he, hks]; exact hso _, this.1, this.2, (hT _).below hB⟩
      · simp at k
    · simp at k
  · simp at k

end
end Go.Am
