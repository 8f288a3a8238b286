/- Loads, stores, new variables: what the abstract machine says of them holds in the world. -/
import Derived.Test.YtgpeieohdelniaaGreatDoorAmRel
import Derived.Laws.CopyRow
namespace Go.Am
open Go Go.RowKit

/-- What an operation that leaves the heap alone came to. -/
def PureOut (P : Program) (α : Corr) (m : Mem) (w : World) (s : Sem Value) (v : Value) : Prop := ∃ cv, s.run P w = .ok cv w ∧ VRel α m v cv
/-- What an operation came to. -/
def OpOut (P : Program) (α : Corr) (h : St) (B : Nat) (w : World) (s : Sem Next) (v : Value) (h' : St) : Prop :=
  ∃ α' w' nx, s.run P w = .ok nx w' ∧ ((∃ cv, nx = .value cv ∧ VRel α' h'.m v cv) ∨ (nx = .skip ∧ v = undef)) ∧ HRel α' h'.m B w' ∧ Le α h.m α' h'.m ∧ Below B w w'
/-- What an operation that makes a value, and may turn the heap, came to. -/
def ValOut (P : Program) (α : Corr) (h : St) (B : Nat) (w : World) (s : Sem Value) (v : Value) (h' : St) : Prop :=
  ∃ α' w' cv, s.run P w = .ok cv w' ∧ VRel α' h'.m v cv ∧ HRel α' h'.m B w' ∧ Le α h.m α' h'.m ∧ Below B w w'
def UnitOut (P : Program) (α : Corr) (h : St) (B : Nat) (w : World) (s : Sem Unit) (h' : St) : Prop :=
  ∃ α' w', s.run P w = .ok () w' ∧ HRel α' h'.m B w' ∧ Le α h.m α' h'.m ∧ Below B w w'

section
variable {P : Program} {α : Corr} {h h' : St} {B : Nat} {w : World}

theorem PureOut.op {s : Sem Value} {v : Value} (H : HRel α h.m B w) (k : PureOut P α h.m w s v) : OpOut P α h B w (do pure (.value (← s))) v h := by
  obtain ⟨cv, hr, hv⟩ := k
  exact ⟨α, w, .value cv, by simp [hr], .inl ⟨cv, rfl, hv⟩, H, Le.refl _ _, Below.refl _ _⟩
theorem ValOut.op {s : Sem Value} {v : Value} (k : ValOut P α h B w s v h') : OpOut P α h B w (do pure (.value (← s))) v h' := by
  obtain ⟨α', w', cv, hr, hv, r⟩ := k
  exact ⟨α', w', .value cv, by simp [hr], .inl ⟨cv, rfl, hv⟩, r⟩
theorem UnitOut.op {s : Sem Unit} (k : UnitOut P α h B w s h') : OpOut P α h B w (do s; pure .skip) undef h' := by
  obtain ⟨α', w', hr, r⟩ := k
  exact ⟨α', w', .skip, by simp [hr], .inr ⟨rfl, rfl⟩, r⟩

/-! types -/
theorem run_info {t : TypeId} {i : TypeInfo} (h : P.info? t = some i) : (typeInfo t).run P w = .ok i w := by
  simp [typeInfo, h]
theorem run_tsize {t : TypeId} {n : Nat} (k : tsize P t = some n) : (sizeOf t).run P w = .ok n w := by
  unfold tsize at k
  cases hi : P.info? t with
  | none => simp [hi] at k
  | some i => simp [hi] at k; simp [sizeOf, run_info hi, k]
theorem run_tbytes {t : TypeId} {n : Nat} (k : tbytes P t = some n) : ∃ i, (typeInfo t).run P w = .ok i w ∧ i.bytes = n := by
  unfold tbytes at k
  cases hi : P.info? t with
  | none => simp [hi] at k
  | some i => simp [hi] at k; exact ⟨i, run_info hi, k⟩
theorem run_und {t : TypeId} {d : TypeDesc} (k : P.underlying t = some d) : (underlying t).run P w = .ok d w := by simp [underlying, k]
theorem run_tagg {t : TypeId} {b : Bool} (k : tagg P t = some b) : (isAgg t).run P w = .ok b w := by
  unfold tagg at k
  cases hi : P.underlying t with
  | none => simp [hi] at k
  | some d => simp only [hi, Option.map_some, Option.some.injEq] at k; subst k; simp only [isAgg, Sem.run_bind, run_und hi, Result.andThen_ok]; cases d <;> rfl
theorem run_tzero {t : TypeId} {z : Value} (k : tzero P t = some z) : (zeroValue t).run P w = .ok z w ∧ flat z = true := by
  unfold tzero at k
  split at k
  · rename_i i hi
    split at k
    · rename_i v hv
      split at k
      · simp at k; subst k; rename_i hf; exact ⟨by simp [zeroValue, run_info hi, hv], hf⟩
      · simp at k
    · simp at k
  · simp at k
theorem telem_und {t e : TypeId} (k : telem P t = some e) : P.underlying t = some (.slice e) := by
  unfold telem at k
  split at k
  · rename_i e' he; simp at k; rw [he, k]
  · simp at k
theorem zero_cells_flat {z : Value} (hz : flat z = true) : ∀ v ∈ z.cells.toList, flatN 4 v = true := by
  cases z with
  | agg cs =>
    intro v hv
    have hall : cs.toList.all (flatN 3) = true := hz
    rw [List.all_eq_true] at hall
    have up : ∀ n v, flatN n v = true → flatN (n + 1) v = true := by
      intro n
      induction n with
      | zero => intro v hv; simp [flatN] at hv
      | succ n ih =>
        intro v hv
        cases v <;> simp only [flatN] at hv ⊢ <;> try exact hv
        · rename_i a; cases a <;> simp_all
        · rename_i a l c; cases a <;> simp_all
        · rename_i a; cases a <;> simp_all
        · rename_i a; cases a <;> simp_all
        · rename_i fn a b
          cases fn <;> simp only [Bool.and_eq_true, List.all_eq_true, Bool.false_eq_true] at hv ⊢
          exact ⟨fun x hx => ih _ (hv.1 x hx), fun x hx => ih _ (hv.2 x hx)⟩
        · exact ih _ hv
        · rw [List.all_eq_true] at hv ⊢; exact fun x hx => ih _ (hv x hx)
        · rw [List.all_eq_true] at hv ⊢; exact fun x hx => ih _ (hv x hx)
    exact up 3 v (hall v hv)
  | _ => all_goals (intro v hv; simp [Value.cells] at hv; subst hv; exact hz)

/-! rows -/
theorem St.get_m {id : Nat} {o : AObj} (k : h.get id = some o) : h.m id = some o := by
  unfold St.get at k; split at k
  · exact k
  · simp at k

theorem row_at {a : Addr} {c : List Value} {cv : Value} (hr : h.row a = some c) (H : HRel α h.m B w) (hv : VRel α h.m (.pointer (some a)) cv) :
    cv = .pointer (some ⟨α.blk a.block, α.off a.block + a.off, none⟩) ∧ ∃ cs T fr, w.heap[α.blk a.block]? = some (.cells cs T fr) ∧ CRel α h.m c cs (α.off a.block) := by
  unfold St.row at hr
  split at hr
  · rename_i ro c' hg
    split at hr
    · rename_i hsp
      simp at hr; subst hr
      have hm := St.get_m hg
      obtain ⟨cs, T, fr, h1, h2, _⟩ := H.obj _ _ hm
      refine ⟨?_, cs, T, fr, h1, h2⟩
      cases hv with
      | pcell id off ro c h => rfl
      | pelem id off gs ro e g c ca h hg hl => simp at hsp
    · simp at hr
  · rename_i ro e g c' hg
    split at hr
    · rename_i hsp
      simp at hr; subst hr
      have hm := St.get_m hg
      obtain ⟨cs, T, fr, h1, h2, _⟩ := H.obj _ _ hm
      refine ⟨?_, cs, T, fr, h1, h2⟩
      cases hv with
      | pcell id off ro c h => simp at hsp
      | pelem id off gs ro' e' g' c'' ca h hg' hl =>
        simp only [Option.some.injEq] at hsp
        simp only at hm h
        rw [hm] at h; simp at h
        obtain ⟨_, _, e3, _⟩ := h
        rw [hl (by omega)]
    · simp at hr
  · simp at hr

theorem cell_of {b o i : Nat} {cs : Array Value} {T : TypeId} {fr : Nat × Nat} (hb : w.heap[b]? = some (.cells cs T fr)) : w.cell? ⟨b, o + i, none⟩ = cs[o + i]? := by
  simp [World.cell?, hb]

theorem addr_add (b o i : Nat) : (⟨b, o, none⟩ : Addr).add i = ⟨b, o + i, none⟩ := by unfold Addr.add; split <;> simp_all

theorem ld1_sound {a v cv : Value} (k : ld1 h a = some v) (H : HRel α h.m B w) (hv : VRel α h.m a cv) : PureOut P α h.m w (do load (← Instr.sureAddr cv)) v := by
  cases a with
  | pointer a =>
    cases a with
    | none => simp [ld1] at k
    | some a =>
      simp only [ld1] at k
      cases hr : h.row a with
      | none => simp [hr] at k
      | some c =>
        simp only [hr, Option.bind_some] at k
        obtain ⟨rfl, cs, T, fr, hb, hc⟩ := row_at hr H hv
        obtain ⟨v', hv', hR⟩ := hc _ _ k
        refine ⟨v', ?_, hR⟩
        simp [Instr.sureAddr, cell_of hb, hv']
  | _ => simp [ld1] at k

theorem ldN_sound {a v cv : Value} {n : Nat} (k : ldN h n a = some v) (H : HRel α h.m B w) (hv : VRel α h.m a cv) :
    ∃ p cs, cv = .pointer (some p) ∧ (loadCells p n).run P w = .ok cs w ∧ VRel α h.m v (.agg cs) := by
  cases a with
  | pointer a =>
    cases a with
    | none => simp [ldN] at k
    | some a =>
      simp only [ldN] at k
      cases hr : h.row a with
      | none => simp [hr] at k
      | some c =>
        simp only [hr, Option.bind_some] at k
        split at k
        · rename_i hle
          simp at k; subst k
          obtain ⟨rfl, cs, T, fr, hb, hc⟩ := row_at hr H hv
          have hL : LRel α h.m ((c.drop a.off).take n) ((cs.toList.drop (α.off a.block + a.off)).take n) := by
            have hsz : ∀ i, i < c.length → α.off a.block + i < cs.size := fun i hi => by
              obtain ⟨v', hv', _⟩ := hc i c[i] (by simp [hi])
              exact (Array.getElem?_eq_some_iff.1 hv').1
            refine ⟨?_, fun i u hu => ?_⟩
            · simp only [List.length_take, List.length_drop, Array.length_toList]
              by_cases hn : n = 0
              · subst hn; simp
              · have := hsz (a.off + n - 1) (by omega); omega
            · rw [List.getElem?_take] at hu ⊢
              split at hu
              · rename_i hi
                simp only [hi, if_true]
                rw [List.getElem?_drop] at hu ⊢
                obtain ⟨v', hv', r⟩ := hc _ _ hu
                refine ⟨v', ?_, r⟩
                rw [Array.getElem?_toList, ← hv']; congr 1; omega
              · simp at hu
          have hlen : ((cs.toList.drop (α.off a.block + a.off)).take n).length = n := by
            rw [← hL.1]; simp; omega
          refine ⟨_, _, rfl, ?_, hL.agg⟩
          have := run_loadCells_list (P := P) w ⟨α.blk a.block, α.off a.block + a.off, none⟩ ((cs.toList.drop (α.off a.block + a.off)).take n) (fun j v hj => by
            rw [List.getElem?_take] at hj
            split at hj
            · rw [List.getElem?_drop, Array.getElem?_toList] at hj
              rw [addr_add, Nat.add_assoc, ← Nat.add_assoc, cell_of hb]; exact hj
            · simp at hj)
          rw [hlen] at this; exact this
        · simp at k
  | _ => simp [ldN] at k

theorem aload_sound {t : TypeId} {a v cv : Value} (k : aload P h t a = some v) (H : HRel α h.m B w) (hv : VRel α h.m a cv) : PureOut P α h.m w (Instr.loadAt t cv) v := by
  unfold aload at k
  cases ht : tagg P t with
  | none => simp [ht] at k
  | some g =>
    simp only [ht, Option.bind_some] at k
    cases g with
    | true =>
      simp only [if_true] at k
      cases hs : tsize P t with
      | none => simp [hs] at k
      | some n =>
        simp only [hs, Option.bind_some] at k
        obtain ⟨p, cs, rfl, hl, hR⟩ := ldN_sound (P := P) k H hv
        exact ⟨_, by simp [Instr.loadAt, Instr.sureAddr, loadVar, run_tagg ht, run_tsize hs, hl], hR⟩
    | false =>
      simp only [Bool.false_eq_true, if_false] at k
      obtain ⟨cv', hr, hR⟩ := ld1_sound (P := P) k H hv
      refine ⟨cv', ?_, hR⟩
      simp only [Sem.run_bind] at hr
      simp only [Instr.loadAt, loadVar, Sem.run_bind]
      cases hs : (Instr.sureAddr cv).run P w with
      | ok p w' =>
        rw [hs] at hr
        have : w' = w := by cases cv <;> simp [Instr.sureAddr] at hs; rename_i a; cases a <;> simp [Instr.sureAddr] at hs; exact hs.2.symm
        subst this
        simp only [Result.andThen_ok, Sem.run_bind, run_tagg ht, Bool.false_eq_true, if_false] at hr ⊢
        exact hr
      | halt e w' => rw [hs] at hr; simp at hr

/-! stores -/
theorem Corr.at_self (α : Corr) (id : Nat) : α.at id (α.blk id) (α.off id) (α.room id) = α := by
  cases α; simp only [Corr.at]; congr <;> (funext i; split <;> simp_all)

theorem splice_length {c vs : List Value} {o : Nat} (hl : o + vs.length ≤ c.length) : (splice c o vs).length = c.length := by
  unfold splice; simp; omega
theorem splice_get {c vs : List Value} {o i : Nat} (hl : o + vs.length ≤ c.length) :
    (splice c o vs)[i]? = if o ≤ i ∧ i < o + vs.length then vs[i - o]? else c[i]? := by
  unfold splice
  rw [List.append_assoc, List.getElem?_append]
  have ht : (c.take o).length = o := by simp; omega
  rw [ht]
  by_cases h1 : i < o
  · rw [if_pos h1, if_neg (by omega), List.getElem?_take, if_pos h1]
  · rw [if_neg h1, List.getElem?_append]
    by_cases h2 : i - o < vs.length
    · rw [if_pos h2, if_pos (by omega)]
    · rw [if_neg h2, if_neg (by omega), List.getElem?_drop]; congr 1; omega

theorem oneCell_of {v : Value} (k : one1 v = true) : v.oneCell' = true := by cases v <;> first | rfl | simp [one1] at k

theorem setRow_turned {b : Nat} {cur cur' : Array Value} {T : TypeId} {fr : Nat × Nat} (hb : w.heap[b]? = some (.cells cur T fr)) : Turned w (w.setRow b cur') b (.cells cur' T fr) := by
  have hlt : b < w.heap.size := (Array.getElem?_eq_some_iff.1 hb).1
  refine ⟨setRow_heap w b cur cur' T fr hb, fun k hk => ?_, ?_, rfl, rfl, rfl⟩
  · simp only [World.setRow, Array.getElem?_modify]; rw [if_neg (fun e => hk e.symm)]
  · simp [World.setRow]

theorem setRow_sound {a : Addr} {c vs vs' : List Value} (hrow : h.row a = some c) (hs : h.setRow a (splice c a.off vs) = some h') (hl : a.off + vs.length ≤ c.length)
    (hv : LRel α h.m vs vs') (h1 : ∀ v ∈ vs', one1 v = true) (H : HRel α h.m B w) :
    ∃ w', (storeCells ⟨α.blk a.block, α.off a.block + a.off, none⟩ vs').run P w = .ok () w' ∧ HRel α h'.m B w' ∧ Le α h.m α h'.m ∧ Below B w w' := by
  -- what all kinds of objects have in common
  have main : ∀ (o o' : AObj) (cs : Array Value) (T : TypeId), h.m a.block = some o → o.ro = false → o'.ro = false → h' = h.put a.block o' →
      w.heap[α.blk a.block]? = some (.cells cs T (0, 0)) → CRel α h.m c cs (α.off a.block) → α.off a.block + c.length ≤ cs.size ∨ vs = [] →
      stepOk α α a.block o o' → B ≤ α.blk a.block →
      (∀ m' w' (cs' : Array Value), Le α h.m α m' → w'.heap[α.blk a.block]? = some (.cells cs' T (0, 0)) → cs'.size = cs.size → CRel α m' (splice c a.off vs) cs' (α.off a.block) → ORel α m' B w' a.block o') →
      ∃ w', (storeCells ⟨α.blk a.block, α.off a.block + a.off, none⟩ vs').run P w = .ok () w' ∧ HRel α h'.m B w' ∧ Le α h.m α h'.m ∧ Below B w w' := by
    intro o o' cs T hm hro hro' hput hb hc hsz hst hB hO
    have hvl := hv.1
    have hfit : α.off a.block + a.off + 0 + vs'.length ≤ cs.size ∨ vs' = [] := by
      rcases hsz with hsz | hsz
      · left; omega
      · right; subst hsz; simpa using hvl.symm
    have hrun : ∃ cs' : Array Value, (storeCells ⟨α.blk a.block, α.off a.block + a.off, none⟩ vs').run P w = .ok () (w.setRow (α.blk a.block) cs') ∧ cs'.size = cs.size ∧
        (∀ i, cs'[α.off a.block + i]? = if a.off ≤ i ∧ i < a.off + vs'.length then vs'[i - a.off]? else cs[α.off a.block + i]?) := by
      rcases hfit with hfit | hfit
      · have := run_storeCells_at P (α.blk a.block) (α.off a.block + a.off) T vs' 0 cs w hb hfit (fun v hv => oneCell_of (h1 v hv))
        have e : cs.toList.take (α.off a.block + a.off + 0) ++ vs' ++ cs.toList.drop (α.off a.block + a.off + 0 + vs'.length) = splice cs.toList (α.off a.block + a.off) vs' := by simp [splice]
        refine ⟨_, this, ?_, fun i => ?_⟩
        · rw [e]; simp only [List.size_toArray]; rw [splice_length (by simp; omega)]; simp
        · rw [e, List.getElem?_toArray, splice_get (by simp; omega)]
          by_cases hi : a.off ≤ i ∧ i < a.off + vs'.length
          · rw [if_pos (by omega), if_pos hi]; congr 1; omega
          · rw [if_neg (by omega), if_neg hi]; simp
      · subst hfit
        refine ⟨cs, ?_, rfl, fun i => ?_⟩
        · simp only [storeCells]
          have hself : w.setRow (α.blk a.block) cs = w := setRow_self w _ cs T (0, 0) hb
          rw [hself]; rfl
        · rw [if_neg]; simp
    obtain ⟨cs', hrun, hsz', hget⟩ := hrun
    have hT := setRow_turned (cur' := cs') hb
    have hcr : ∀ m', Le α h.m α m' → CRel α m' (splice c a.off vs) cs' (α.off a.block) := fun m' hle i u hu => by
      rw [splice_get hl] at hu
      rw [hget i, ← hvl]
      split at hu
      · rename_i hi; simp only [hi, and_self, if_true]
        obtain ⟨x, hx, r⟩ := hv.2 _ _ hu
        exact ⟨x, hx, r.mono hle⟩
      · rename_i hi; simp only [hi, if_false]
        obtain ⟨x, hx, r⟩ := hc _ _ hu
        exact ⟨x, hx, r.mono hle⟩
    have hself := Corr.at_self α a.block
    have := H.turned (B := B) hm hro hro' hT (α.off a.block) (α.room a.block) (by rw [hself]; exact hst) (by
      rw [hself]; exact fun m' hle => hO m' _ cs' hle hT.here hsz' (hcr m' hle))
    rw [hself] at this
    refine ⟨_, hrun, ?_, ?_, hT.below hB⟩
    · rw [hput]; exact this.1
    · rw [hput]; exact this.2
  unfold St.setRow at hs
  split at hs
  · rename_i hfl
    split at hs
    · rename_i cc hg
      split at hs
      · rename_i hsp
        simp at hs
        have hm := St.get_m hg
        have hcc : c = cc := by unfold St.row at hrow; rw [hg] at hrow; simp [hsp] at hrow; exact hrow.symm
        subst hcc
        obtain ⟨cs, T, fr, hb, hc, hro⟩ := H.obj _ _ hm
        obtain ⟨rfl, hB⟩ := hro rfl
        refine main _ (.cells false (splice c a.off vs)) cs T hm rfl rfl hs.symm hb hc ?_ ⟨rfl, splice_length hl, rfl, rfl⟩ hB (fun m' w' cs' hle hb' hsz hcr => ⟨cs', T, (0, 0), hb', hcr, fun _ => ⟨rfl, hB⟩⟩)
        by_cases hv0 : vs = []
        · exact .inr hv0
        · left
          have hne : c ≠ [] := fun e => by subst e; simp at hl; exact hv0 hl.2
          have hpos : 0 < c.length := List.length_pos_iff.2 hne
          obtain ⟨x, hx, _⟩ := hc (c.length - 1) (c[c.length - 1]'(by omega)) (by simp)
          have := (Array.getElem?_eq_some_iff.1 hx).1
          omega
      · simp at hs
    · rename_i e g cc hg
      split at hs
      · rename_i hsp
        simp at hs
        have hm := St.get_m hg
        have hcc : c = cc := by unfold St.row at hrow; rw [hg] at hrow; simp [hsp] at hrow; exact hrow.symm
        subst hcc
        obtain ⟨cs, T, fr, hb, hc, hro⟩ := H.obj _ _ hm
        obtain ⟨rfl, hB, hr1, hr2⟩ := hro rfl
        exact main _ (.arr false e g (splice c a.off vs)) cs T hm rfl rfl hs.symm hb hc (.inl (by omega)) ⟨rfl, rfl, Nat.le_refl _, fun _ => ⟨splice_length hl, rfl, rfl, rfl⟩⟩ hB
          (fun m' w' cs' hle hb' hsz hcr => ⟨cs', T, (0, 0), hb', hcr, fun _ => ⟨rfl, hB, by rw [splice_length hl]; exact hr1, by rw [hsz]; exact hr2⟩⟩)
      · simp at hs
    · simp at hs
  · simp at hs

theorem stN_sound {n : Nat} {v cv a ca : Value} (k : stN h n v a = some h') (H : HRel α h.m B w) (ha : VRel α h.m a ca) (hv : VRel α h.m v cv) :
    cv.cells.size = n ∧ ∃ p w', ca = .pointer (some p) ∧ (storeCells p cv.cells.toList).run P w = .ok () w' ∧ HRel α h'.m B w' ∧ Le α h.m α h'.m ∧ Below B w w' := by
  cases a with
  | pointer a =>
    cases a with
    | none => simp [stN] at k
    | some a =>
      simp only [stN] at k
      cases hr : h.row a with
      | none => simp [hr] at k
      | some c =>
        simp only [hr, Option.bind_some] at k
        split at k
        · rename_i hc
          obtain ⟨hc1, hc2, hc3⟩ := hc
          obtain ⟨rfl, _⟩ := row_at hr H ha
          have hL := hv.cells
          have h1 : ∀ u ∈ cv.cells.toList, one1 u = true := fun u hu => by
            obtain ⟨i, hi, rfl⟩ := List.getElem_of_mem hu
            rw [List.all_eq_true] at hc3
            have hi' : i < v.cells.toList.length := by rw [hL.1]; exact hi
            obtain ⟨x, hx, r⟩ := hL.2 i v.cells.toList[i] (by rw [List.getElem?_eq_getElem hi'])
            rw [List.getElem?_eq_getElem hi] at hx; simp only [Option.some.injEq] at hx
            rw [hx, r.one1]; exact hc3 _ (List.getElem_mem _)
          obtain ⟨w', hrun, r⟩ := setRow_sound (P := P) hr k (by simpa [hc1] using hc2) hL h1 H
          exact ⟨by rw [← hv.cells_size]; exact hc1, _, w', rfl, hrun, r⟩
        · simp at k
  | _ => simp [stN] at k

theorem astore_sound {t : TypeId} {a v ca cv : Value} (k : astore P h t a v = some h') (H : HRel α h.m B w) (ha : VRel α h.m a ca) (hv : VRel α h.m v cv) :
    UnitOut P α h B w (Instr.storeAt t ca cv) h' := by
  unfold astore at k
  cases hs : tsize P t with
  | none => simp [hs] at k
  | some n =>
    simp only [hs, Option.bind_some] at k
    obtain ⟨hn, p, w', rfl, hrun, H', hle, hB⟩ := stN_sound (P := P) k H ha hv
    refine ⟨α, w', ?_, H', hle, hB⟩
    simp [Instr.storeAt, Instr.sureAddr, storeVar, run_tsize hs, hn, hrun]

/-! new objects -/
theorem new_cells_sound {vs : List Value} {cvs : Array Value} (T : TypeId) (H : HRel α h.m B w) (hf : h.m h.next = none) (hv : LRel α h.m vs cvs.toList) :
    HRel (α.at h.next w.heap.size 0 vs.length) (h.new (.cells false vs)).m B { w with heap := w.heap.push (.cells cvs T) } ∧
    Le α h.m (α.at h.next w.heap.size 0 vs.length) (h.new (.cells false vs)).m ∧ Below B w { w with heap := w.heap.push (.cells cvs T) } ∧
    VRel (α.at h.next w.heap.size 0 vs.length) (h.new (.cells false vs)).m (.pointer (some ⟨h.next, 0, none⟩)) (.pointer (some ⟨w.heap.size, 0, none⟩)) := by
  refine ⟨H.fresh hf _ _ _ fun α' m' h1 h2 h3 hle => ?_, Le.fresh hf _ _ _ _, (Below.refl B w).alloc H.low _, ?_⟩
  · refine ⟨cvs, T, (0, 0), by rw [h1]; simp, fun i u hu => ?_, fun _ => ⟨rfl, by rw [h1]; exact H.low⟩⟩
    obtain ⟨x, hx, r⟩ := hv.2 i u hu
    exact ⟨x, by rw [h2, Nat.zero_add, ← Array.getElem?_toList]; exact hx, r.mono hle⟩
  · have := VRel.pcell (α := α.at h.next w.heap.size 0 vs.length) (m := (h.new (.cells false vs)).m) h.next 0 false vs (upd_self _ _ _)
    rw [Corr.at_blk, Corr.at_off] at this
    exact this

theorem aalloc_sound {t : TypeId} {v : Value} (k : aalloc P h t = some (v, h')) (H : HRel α h.m B w) (hf : h.m h.next = none) :
    ValOut P α h B w (Instr.alloc t true (.tuple #[])) v h' := by
  unfold aalloc at k
  cases hz : tzero P t with
  | none => simp [hz] at k
  | some z =>
    simp [hz] at k
    obtain ⟨rfl, rfl⟩ := k
    have hfl := run_tzero (w := w) hz
    obtain ⟨a, b, c, d⟩ := new_cells_sound (vs := z.cells.toList) (cvs := z.cells) t H hf (LRel.flat (zero_cells_flat hfl.2))
    exact ⟨_, _, _, by simp [Instr.alloc, hfl.1, newVar, newRow], d, a, b, c⟩

theorem abox_sound {t : TypeId} {v cv : Value} (H : HRel α h.m B w) (hf : h.m h.next = none) (hv : VRel α h.m v cv) :
    ValOut P α h B w (Instr.box t cv) (abox h v).1 (abox h v).2 := by
  obtain ⟨a, b, c, d⟩ := new_cells_sound (vs := v.cells.toList) (cvs := cv.cells) t H hf hv.cells
  exact ⟨_, _, _, by simp [Instr.box, newVar, newRow], d, a, b, c⟩

end
end Go.Am
