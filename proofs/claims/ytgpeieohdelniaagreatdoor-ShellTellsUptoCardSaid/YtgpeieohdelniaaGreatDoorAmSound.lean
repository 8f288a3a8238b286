/- From the abstract machine's code to the model's: frames, one step. -/
import Derived.Test.YtgpeieohdelniaaGreatDoorAmStep
namespace Go.Am
open Go Go.RowKit

/-! the relation of a run -/
/-- The world in which all began. -/
structure Old (B : Nat) (W0 w : World) : Prop where
  size : W0.heap.size ≤ B
  below : Below B W0 w
theorem Old.trans {B : Nat} {W0 w w' : World} (h : Old B W0 w) (b : Below B w w') : Old B W0 w' := ⟨h.size, h.below.trans b⟩
structure RRel (W0 : World) (α : Corr) (m : Mem) (B U M : Nat) (h : St) (w : World) : Prop where
  heap : HRel α m B w
  sub : ∀ id o, h.get id = some o → m id = some o
  dom : ∀ id o, h.get id = some o → id < h.next
  free : ∀ id, h.next ≤ id → id < U → m id = none
  top : ∀ id, M ≤ id → m id = none
  UM : U ≤ M
  vis : ∀ id, h.next ≤ id → h.vis id = true
  fl : h.floor ≤ h.next
  old : Old B W0 w

structure Post (W0 : World) (B G U : Nat) (α : Corr) (m : Mem) (M : Nat) (h : St) (w : World) (α' : Corr) (m' : Mem) (M' : Nat) (h' : St) (w' : World) : Prop where
  rel : RRel W0 α' m' B U M' h' w'
  le : Le α m α' m'
  below : Below B w w'
  MM : M ≤ M'
  vis : h'.vis = h.vis
  floor : h'.floor = h.floor
  next : h.next ≤ h'.next
  keep : ∀ id, id < G → (h.vis id = false ∨ id < h.floor ∨ U ≤ id) → m' id = m id

section
variable {P : Program} {α α' α'' : Corr} {m m' m'' : Mem} {B G U M M' M'' : Nat} {h h' h'' : St} {W0 w w' w'' : World}

theorem Post.refl (C : RRel W0 α m B U M h w) : Post W0 B G U α m M h w α m M h w := ⟨C, Le.refl _ _, Below.refl _ _, Nat.le_refl _, rfl, rfl, Nat.le_refl _, fun _ _ _ => rfl⟩
theorem Post.trans (p : Post W0 B G U α m M h w α' m' M' h' w') (q : Post W0 B G U α' m' M' h' w' α'' m'' M'' h'' w'') : Post W0 B G U α m M h w α'' m'' M'' h'' w'' :=
  ⟨q.rel, p.le.trans q.le, p.below.trans q.below, Nat.le_trans p.MM q.MM, q.vis.trans p.vis, q.floor.trans p.floor, Nat.le_trans p.next q.next, fun id hid hc => by
    rw [q.keep id hid (by rw [p.vis, p.floor]; exact hc), p.keep id hid hc]⟩
theorem Post.lower {G' : Nat} (p : Post W0 B G' U α m M h w α' m' M' h' w') (hG : G ≤ G') : Post W0 B G U α m M h w α' m' M' h' w' :=
  ⟨p.rel, p.le, p.below, p.MM, p.vis, p.floor, p.next, fun id hid hc => p.keep id (Nat.lt_of_lt_of_le hid hG) hc⟩

/-- The heap with all that is there. -/
def full (h : St) (m : Mem) : St := { m := m, next := h.next, vis := fun _ => true, floor := h.floor }
theorem RRel.subFull (C : RRel W0 α m B U M h w) : Sub h (full h m) := ⟨rfl, rfl, fun id o k => by simp only [full, St.get, if_true]; exact C.sub id o k⟩

theorem RRel.moved (C : RRel W0 α m B U M h w) {g' : St} (hM : Moved h h' (full h m) g') (hN : h'.next ≤ U) (hH : HRel α' g'.m B w') (hle : Le α m α' g'.m) (hb : Below B w w') :
    Post W0 B G U α m M h w α' g'.m M h' w' := by
  have old : ∀ id, h.vis id = true → (h.m id).isSome = true → id < h.next ∧ (m id).isSome = true := fun id h1 h2 => by
    obtain ⟨o, ho⟩ := Option.isSome_iff_exists.1 h2
    have hg : h.get id = some o := by simp [St.get, h1, ho]
    exact ⟨C.dom id o hg, by rw [C.sub id o hg]; rfl⟩
  have hMle := hM.le
  have hUM := C.UM
  have hfl := C.fl
  refine ⟨⟨hH, fun id o k => ?_, fun id o k => ?_, fun id h1 h2 => ?_, fun id h1 => ?_, C.UM, fun id h1 => ?_, ?_, C.old.trans hb⟩, hle, hb, Nat.le_refl _, hM.vis, hM.floor, hM.le, fun id hid hc => ?_⟩
  · obtain ⟨k1, k2⟩ := get_some k
    rcases hM.m id with ⟨e1, e2⟩ | ⟨e1, _⟩
    · rw [e2]; rw [e1] at k2; exact C.sub id o (by simp [St.get, k2, ← hM.vis, k1])
    · rw [e1]; exact k2
  · obtain ⟨k1, k2⟩ := get_some k
    rcases hM.m id with ⟨e1, e2⟩ | ⟨_, _, e3 | ⟨e3, e4, e5⟩⟩
    · rw [e1] at k2; exact Nat.lt_of_lt_of_le (C.dom id o (by simp [St.get, k2, ← hM.vis, k1])) hM.le
    · exact e3.2
    · exact Nat.lt_of_lt_of_le (old id e3 e5).1 hM.le
  · rcases hM.m id with ⟨_, e2⟩ | ⟨_, _, e3 | ⟨e3, e4, e5⟩⟩
    · rw [e2]; exact C.free id (Nat.le_trans hM.le h1) h2
    · omega
    · have := (old id e3 e5).1; omega
  · rcases hM.m id with ⟨_, e2⟩ | ⟨_, _, e3 | ⟨e3, e4, e5⟩⟩
    · rw [e2]; exact C.top id h1
    · omega
    · have := (old id e3 e5).1; omega
  · rw [hM.vis]; exact C.vis id (Nat.le_trans hM.le h1)
  · rw [hM.floor]; exact Nat.le_trans C.fl hM.le
  · rcases hM.m id with ⟨_, e2⟩ | ⟨_, _, e3 | ⟨e3, e4, e5⟩⟩
    · exact e2
    · rcases hc with hc | hc | hc
      · rw [C.vis id e3.1] at hc; simp at hc
      · omega
      · omega
    · rcases hc with hc | hc | hc
      · rw [e3] at hc; simp at hc
      · omega
      · have := (old id e3 e5).1; omega

/-! frames -/
structure FRel (α : Corr) (m : Mem) (G M : Nat) (γ : Nat → Nat) (L D : List Nat) (t : List Value) (ct : Array Value) : Prop where
  size : t.length = ct.size
  val : ∀ i, L.contains i = false → D.contains i = false → VRel α m (t.getD i undef) (ct.getD i undef)
  loc : ∀ i, L.contains i = true → t.getD i undef = undef ∨ ∃ cs, t.getD i undef = .agg cs ∧ G ≤ γ i ∧ γ i < M ∧ m (γ i) = some (.cells false cs.toList) ∧
    ct.getD i undef = .pointer (some ⟨α.blk (γ i), α.off (γ i), none⟩)
  der : ∀ i, L.contains i = false → D.contains i = true → t.getD i undef = undef ∨ ∃ r o cs, t.getD i undef = .complex .f32 r o ∧ L.contains r = true ∧ t.getD r undef = .agg cs ∧
    ct.getD i undef = .pointer (some ⟨α.blk (γ r), α.off (γ r) + o, none⟩)
  inj : ∀ i j cs ds, L.contains i = true → L.contains j = true → i ≠ j → t.getD i undef = .agg cs → t.getD j undef = .agg ds → γ i ≠ γ j
  dis : ∀ i, L.contains i = true → D.contains i = false
  GM : G ≤ M

variable {γ : Nat → Nat} {L D : List Nat} {t : List Value} {ct : Array Value}

theorem Le.cells (hle : Le α m α' m') {id : Nat} {ro : Bool} {cs : List Value} (hm : m id = some (.cells ro cs)) : α'.blk id = α.blk id ∧ α'.off id = α.off id := by
  obtain ⟨o', ho, hs⟩ := hle _ _ hm
  cases o' <;> simp only [stepOk] at hs
  exact ⟨hs.2.2.1, hs.2.2.2⟩
theorem FRel.own (F : FRel α m G M γ L D t ct) {i : Nat} {cs : Array Value} (hi : L.contains i = true) (ht : t.getD i undef = .agg cs) : G ≤ γ i ∧ γ i < M ∧ m (γ i) = some (.cells false cs.toList) ∧
    ct.getD i undef = .pointer (some ⟨α.blk (γ i), α.off (γ i), none⟩) := by
  rcases F.loc i hi with h0 | ⟨cs', h1, h2, h3, h4, h5⟩
  · rw [h0] at ht; simp [undef] at ht
  · rw [h1] at ht; cases ht; exact ⟨h2, h3, h4, h5⟩

theorem FRel.mono (F : FRel α m G M γ L D t ct) (hle : Le α m α' m') (hMM : M ≤ M') (keep : ∀ id, G ≤ id → id < M → m' id = m id) : FRel α' m' G M' γ L D t ct := by
  have hα : ∀ i cs, L.contains i = true → t.getD i undef = .agg cs → α'.blk (γ i) = α.blk (γ i) ∧ α'.off (γ i) = α.off (γ i) := fun i cs hi ht =>
    hle.cells (F.own hi ht).2.2.1
  refine ⟨F.size, fun i h1 h2 => (F.val i h1 h2).mono hle, fun i hi => ?_, fun i hl hi => ?_, F.inj, F.dis, Nat.le_trans F.GM hMM⟩
  · rcases F.loc i hi with h0 | ⟨cs, h1, h2, h3, h4, h5⟩
    · exact .inl h0
    · obtain ⟨e1, e2⟩ := hα i cs hi h1
      exact .inr ⟨cs, h1, h2, Nat.lt_of_lt_of_le h3 hMM, by rw [keep _ h2 h3]; exact h4, by rw [e1, e2]; exact h5⟩
  · rcases F.der i hl hi with h0 | ⟨r, o, cs, h1, h2, h3, h4⟩
    · exact .inl h0
    · obtain ⟨e1, e2⟩ := hα r cs h2 h3
      exact .inr ⟨r, o, cs, h1, h2, h3, by rw [e1, e2]; exact h4⟩
theorem FRel.post (F : FRel α m G M γ L D t ct) (hU : U ≤ G) (p : Post W0 B M U α m M h w α' m' M' h' w') : FRel α' m' G M' γ L D t ct :=
  F.mono p.le p.MM fun id h1 h2 => p.keep id h2 (.inr (.inr (Nat.le_trans hU h1)))

theorem getD_set {t : List Value} {d i : Nat} {v : Value} : (t.set d v).getD i undef = if d = i ∧ d < t.length then v else t.getD i undef := by
  rw [List.getD_eq_getElem?_getD, List.getElem?_set, List.getD_eq_getElem?_getD]
  by_cases h : d = i
  · subst h
    by_cases hl : d < t.length
    · simp [hl]
    · simp [hl]
  · simp [h]
theorem agetD_set {t : Array Value} {d i : Nat} {v : Value} : (t.setIfInBounds d v).getD i undef = if d = i ∧ d < t.size then v else t.getD i undef := by
  rw [Array.getD_eq_getD_getElem?, Array.getElem?_setIfInBounds, Array.getD_eq_getD_getElem?]
  by_cases h : d = i
  · subst h
    by_cases hl : d < t.size
    · simp [hl]
    · simp [hl]
  · simp [h]

theorem FRel.set (F : FRel α m G M γ L D t ct) {d : Nat} (hL : L.contains d = false) {v cv : Value} (hv : (D.contains d = false ∧ VRel α m v cv) ∨ v = undef ∧ D.contains d = true) : FRel α m G M γ L D (t.set d v) (ct.setIfInBounds d cv) := by
  have ne : ∀ i, L.contains i = true → d ≠ i := fun i hi e => by subst e; rw [hL] at hi; simp at hi
  have hsz := F.size
  refine ⟨by simp [F.size], fun i h1 h2 => ?_, fun i hi => ?_, fun i hl hi => ?_, fun i j cs ds hi hj hne h1 h2 => ?_, F.dis, F.GM⟩
  · rw [getD_set, agetD_set, hsz]
    split
    · rename_i hd
      rcases hv with hv | ⟨_, hv⟩
      · exact hv.2
      · rw [hd.1, h2] at hv; simp at hv
    · exact F.val i h1 h2
  · have := ne i hi
    rw [getD_set, agetD_set, if_neg (fun h => this h.1), if_neg (fun h => this h.1)]; exact F.loc i hi
  · by_cases hd : d = i
    · subst hd
      rcases hv with hv | ⟨rfl, _⟩
      · rw [hv.1] at hi; simp at hi
      · rw [getD_set]
        by_cases hlt : d < t.length
        · left; simp [hlt]
        · left; rw [if_neg (fun h => hlt h.2), List.getD_eq_getElem?_getD, List.getElem?_eq_none (by omega)]; rfl
    · rw [getD_set, agetD_set, if_neg (fun h => hd h.1), if_neg (fun h => hd h.1)]
      rcases F.der i hl hi with h0 | ⟨r, o, cs, h1, h2, h3, h4⟩
      · exact .inl h0
      · have := ne r h2
        exact .inr ⟨r, o, cs, h1, h2, by rw [getD_set, if_neg (fun h => this h.1)]; exact h3, h4⟩
  · rw [getD_set, if_neg (fun h => ne i hi h.1)] at h1
    rw [getD_set, if_neg (fun h => ne j hj h.1)] at h2
    exact F.inj i j cs ds hi hj hne h1 h2

theorem FRel.setD (F : FRel α m G M γ L D t ct) {d r o : Nat} {cs : Array Value} (hL : L.contains d = false) (hD : D.contains d = true) (hr : L.contains r = true) (hc : t.getD r undef = .agg cs) :
    FRel α m G M γ L D (t.set d (.complex .f32 r o)) (ct.setIfInBounds d (.pointer (some ⟨α.blk (γ r), α.off (γ r) + o, none⟩))) := by
  have ne : ∀ i, L.contains i = true → d ≠ i := fun i hi e => by subst e; rw [hL] at hi; simp at hi
  have hsz := F.size
  refine ⟨by simp [F.size], fun i h1 h2 => ?_, fun i hi => ?_, fun i hl hi => ?_, fun i j cs ds hi hj hne h1 h2 => ?_, F.dis, F.GM⟩
  · have : d ≠ i := fun e => by subst e; rw [hD] at h2; simp at h2
    rw [getD_set, agetD_set, if_neg (fun h => this h.1), if_neg (fun h => this h.1)]; exact F.val i h1 h2
  · have := ne i hi
    rw [getD_set, agetD_set, if_neg (fun h => this h.1), if_neg (fun h => this h.1)]; exact F.loc i hi
  · have hkeep : ∀ (r' : Nat) (cs' : Array Value), L.contains r' = true → t.getD r' undef = .agg cs' → (t.set d (.complex .f32 r o)).getD r' undef = .agg cs' := fun r' cs' hr' hc' => by
      rw [getD_set, if_neg (fun h => ne r' hr' h.1)]; exact hc'
    by_cases hd : d = i ∧ d < t.length
    · rw [getD_set, agetD_set, if_pos hd, if_pos (by rw [← hsz]; exact hd)]
      exact .inr ⟨r, o, cs, rfl, hr, hkeep r cs hr hc, rfl⟩
    · rw [getD_set, agetD_set, if_neg hd, if_neg (by rw [← hsz]; exact hd)]
      rcases F.der i hl hi with h0 | ⟨r', o', cs', h1, h2, h3, h4⟩
      · exact .inl h0
      · exact .inr ⟨r', o', cs', h1, h2, hkeep _ _ h2 h3, h4⟩
  · rw [getD_set, if_neg (fun h => ne i hi h.1)] at h1
    rw [getD_set, if_neg (fun h => ne j hj h.1)] at h2
    exact F.inj i j cs ds hi hj hne h1 h2

theorem FRel.ev (F : FRel α m G M γ L D t ct) {x : Operand} (ok : okOperand L D x = true) (ds : List Deferred) : VRel α m (aev t x) ((⟨ct, ds⟩ : Act).eval x) := by
  cases x with
  | tmp i => simp only [okOperand, Bool.not_eq_true', Bool.or_eq_false_iff] at ok; exact F.val i ok.1 ok.2
  | const v => exact flat_rel α m 4 v ok
  | global g => simp [okOperand] at ok
  | func f => exact .func f _ _ _ _ rfl rfl (fun i hi => by simp at hi) (fun i hi => by simp at hi)

theorem clear1_get (r d : Nat) (t : List Value) (i : Nat) : (clear1 r d t).length = t.length ∧ ((clear1 r d t).getD i undef = t.getD i undef ∨ (i = d ∧ (clear1 r d t).getD i undef = undef)) := by
  unfold clear1
  split
  · split
    · refine ⟨by simp, ?_⟩
      rw [getD_set]
      by_cases hd : d = i ∧ d < t.length
      · rw [if_pos hd]; exact .inr ⟨hd.1.symm, rfl⟩
      · rw [if_neg hd]; exact .inl rfl
    · exact ⟨rfl, .inl rfl⟩
  · exact ⟨rfl, .inl rfl⟩
theorem clear1_clears (r d : Nat) (t : List Value) (o : Nat) : (clear1 r d t).getD d undef ≠ .complex .f32 r o := by
  unfold clear1
  split
  · rename_i r' o' hc
    split
    · rw [getD_set]
      split
      · simp [undef]
      · rename_i hnl
        exfalso; apply hnl; refine ⟨rfl, ?_⟩
        rcases Nat.lt_or_ge d t.length with h | h
        · exact h
        · rw [List.getD_eq_getElem?_getD, List.getElem?_eq_none h] at hc; simp [undef] at hc
    · rename_i hr; rw [hc]; intro e; simp at e; exact hr e.1
  · rename_i hn; intro e; exact hn _ _ e
theorem clearD_length (r : Nat) : ∀ (ds : List Nat) (t : List Value), (clearD r ds t).length = t.length := by
  intro ds
  induction ds with
  | nil => intro t; rfl
  | cons d ds ih => intro t; simp only [clearD]; rw [ih]; exact (clear1_get r d t 0).1
/-- What clearing leaves: a slot is as it was, or it pointed into the variable and is worth nothing. -/
theorem clearD_get (r : Nat) : ∀ (ds : List Nat) (t : List Value) (i : Nat), (clearD r ds t).getD i undef = t.getD i undef ∨ (ds.contains i = true ∧ (clearD r ds t).getD i undef = undef) := by
  intro ds
  induction ds with
  | nil => intro t i; exact .inl rfl
  | cons d ds ih =>
    intro t i
    simp only [clearD]
    rcases ih (clear1 r d t) i with h2 | ⟨h2, h3⟩
    · rcases (clear1_get r d t i).2 with h1 | ⟨h1, h1'⟩
      · exact .inl (h2.trans h1)
      · exact .inr ⟨by simp [h1], h2.trans h1'⟩
    · exact .inr ⟨by simp at h2 ⊢; exact .inr h2, h3⟩
theorem clearD_clears (r : Nat) : ∀ (ds : List Nat) (t : List Value) (i : Nat) (o : Nat), ds.contains i = true → (clearD r ds t).getD i undef ≠ .complex .f32 r o := by
  intro ds
  induction ds with
  | nil => intro t i o hi; simp at hi
  | cons d ds ih =>
    intro t i o hi
    simp only [clearD]
    by_cases hds : ds.contains i = true
    · exact ih _ i o hds
    · have hd : i = d := by simp at hi hds; rcases hi with h | h; exact h; exact absurd h hds
      subst hd
      rcases clearD_get r ds (clear1 r i t) i with h2 | ⟨h2, _⟩
      · rw [h2]; exact clear1_clears r i t o
      · exact absurd h2 hds

theorem VRel.pcell_inv {id off : Nat} {ro : Bool} {c : List Value} {cv : Value} (h : VRel α m (.pointer (some ⟨id, off, none⟩)) cv) (hm : m id = some (.cells ro c)) : cv = .pointer (some ⟨α.blk id, α.off id + off, none⟩) := by
  cases h with
  | pcell _ _ _ _ _ => rfl

/-- A new variable of the frame's own. -/
theorem FRel.fresh (F : FRel α m G M γ L D t ct) (C : RRel W0 α m B U M h w) (hU : U ≤ G) {d : Nat} (hL : L.contains d = true) {cs : List Value} {cv : Value}
    (H' : HRel α' (upd m M (.cells false cs)) B w') (hle : Le α m α' (upd m M (.cells false cs))) (hb : Below B w w') (hv : VRel α' (upd m M (.cells false cs)) (.pointer (some ⟨M, 0, none⟩)) cv) :
    Post W0 B G U α m M h w α' (upd m M (.cells false cs)) (M + 1) h w' ∧
      FRel α' (upd m M (.cells false cs)) G (M + 1) (fun i => if i = d then M else γ i) L D ((clearD d D t).set d (.agg cs.toArray)) (ct.setIfInBounds d cv) := by
  have hfree : m M = none := C.top M (Nat.le_refl _)
  have hUM := C.UM
  have hGM := F.GM
  refine ⟨⟨⟨H', fun id o k => ?_, C.dom, fun id h1 h2 => ?_, fun id h1 => ?_, by omega, C.vis, C.fl, C.old.trans hb⟩, hle, hb, by omega, rfl, rfl, Nat.le_refl _, fun id hid _ => ?_⟩, ?_⟩
  · have := C.sub id o k
    rw [upd_ne _ _ (fun e => by rw [e, hfree] at this; simp at this)]; exact this
  · rw [upd_ne _ _ (by omega)]; exact C.free id h1 h2
  · rw [upd_ne _ _ (by omega)]; exact C.top id (by omega)
  · rw [upd_ne _ _ (by omega)]
  · have F' := F.mono (M' := M + 1) hle (by omega) (fun id h1 h2 => show upd m M _ id = m id from upd_ne _ _ (by omega))
    have hsz := F.size
    have hlen := clearD_length d D t
    have hdD := F.dis
    have clrL : ∀ i, L.contains i = true → (clearD d D t).getD i undef = t.getD i undef := fun i hi => by
      rcases clearD_get d D t i with e | ⟨e, _⟩
      · exact e
      · rw [hdD i hi] at e; simp at e
    refine ⟨by simp [hlen, hsz], fun i h1 h2 => ?_, fun i hi => ?_, fun i hl hi => ?_, fun i j xs ys hi hj hne h1 h2 => ?_, F.dis, by omega⟩
    · have hne : d ≠ i := fun e => by subst e; rw [hL] at h1; simp at h1
      rw [getD_set, agetD_set, if_neg (fun h => hne h.1), if_neg (fun h => hne h.1)]
      rcases clearD_get d D t i with e | ⟨e, _⟩
      · rw [e]; exact F'.val i h1 h2
      · rw [e] at h2; simp at h2
    · by_cases hid : d = i
      · subst hid
        by_cases hd : d < t.length
        · have hγ : (if d = d then M else γ d) = M := if_pos rfl
          have e1 : ((clearD d D t).set d (.agg cs.toArray)).getD d undef = .agg cs.toArray := by rw [getD_set, if_pos ⟨rfl, by omega⟩]
          have e2 : (ct.setIfInBounds d cv).getD d undef = cv := by rw [agetD_set, if_pos ⟨rfl, by omega⟩]
          rw [e1, e2]
          simp only [if_true]
          exact .inr ⟨cs.toArray, rfl, by omega, by omega, by simp [upd_self], hv.pcell_inv (upd_self _ _ _)⟩
        · left
          rw [getD_set, if_neg (fun h => hd (by have := h.2; omega)), clrL _ hi, List.getD_eq_getElem?_getD, List.getElem?_eq_none (by omega)]; rfl
      · have hγ : (if i = d then M else γ i) = γ i := if_neg (fun e => hid e.symm)
        simp only [hγ]
        rw [getD_set, agetD_set, if_neg (fun h => hid h.1), if_neg (fun h => hid h.1), clrL i hi]
        exact F'.loc i hi
    · have hne : d ≠ i := fun e => by subst e; rw [hL] at hl; simp at hl
      rw [getD_set, agetD_set, if_neg (fun h => hne h.1), if_neg (fun h => hne h.1)]
      rcases clearD_get d D t i with e | ⟨_, e⟩
      · rcases F'.der i hl hi with h0 | ⟨r, o, xs, h1, h2, h3, h4⟩
        · exact .inl (e.trans h0)
        · have hrd : r ≠ d := fun er => clearD_clears d D t i o hi (by rw [e, h1, er])
          refine .inr ⟨r, o, xs, e.trans h1, h2, ?_, by rw [if_neg hrd]; exact h4⟩
          rw [getD_set, if_neg (fun h => hrd h.1.symm), clrL r h2]; exact h3
      · exact .inl e
    · have old : ∀ i xs, L.contains i = true → i ≠ d → ((clearD d D t).set d (.agg cs.toArray)).getD i undef = .agg xs → t.getD i undef = .agg xs := fun i xs hi hne h => by
        rw [getD_set, if_neg (fun h => hne h.1.symm), clrL i hi] at h; exact h
      by_cases hid : i = d
      · have hjd : j ≠ d := fun e => hne (hid.trans e.symm)
        have := (F.own hj (old j ys hj hjd h2)).2.1
        rw [if_pos hid, if_neg hjd]; omega
      · by_cases hjd : j = d
        · have := (F.own hi (old i xs hi hid h1)).2.1
          rw [if_neg hid, if_pos hjd]; omega
        · rw [if_neg hid, if_neg hjd]
          exact F.inj i j xs ys hi hj hne (old i xs hi hid h1) (old j ys hj hjd h2)

/-- A variable of the frame's own is written. -/
theorem FRel.write (F : FRel α m G M γ L D t ct) (C : RRel W0 α m B U M h w) (hU : U ≤ G) (hN : h.next ≤ U) {r : Nat} (hL : L.contains r = true) {cs : Array Value} {cs' : List Value} (hr : t.getD r undef = .agg cs)
    (H' : HRel α' (upd m (γ r) (.cells false cs')) B w') (hle : Le α m α' (upd m (γ r) (.cells false cs'))) (hb : Below B w w') :
    Post W0 B G U α m M h w α' (upd m (γ r) (.cells false cs')) M h w' ∧ FRel α' (upd m (γ r) (.cells false cs')) G M γ L D (t.set r (.agg cs'.toArray)) ct := by
  obtain ⟨o1, o2, o3, o4⟩ := F.own hL hr
  have hUM := C.UM
  have hrl : r < t.length := by
    rcases Nat.lt_or_ge r t.length with h | h
    · exact h
    · rw [List.getD_eq_getElem?_getD, List.getElem?_eq_none h] at hr; simp [undef] at hr
  have hα : ∀ i cs, L.contains i = true → t.getD i undef = .agg cs → α'.blk (γ i) = α.blk (γ i) ∧ α'.off (γ i) = α.off (γ i) := fun i cs hi ht =>
    hle.cells (F.own hi ht).2.2.1
  refine ⟨⟨⟨H', fun id o k => ?_, C.dom, fun id h1 h2 => ?_, fun id h1 => ?_, C.UM, C.vis, C.fl, C.old.trans hb⟩, hle, hb, Nat.le_refl _, rfl, rfl, Nat.le_refl _, fun id hid _ => ?_⟩, ?_⟩
  · have h1 := C.sub id o k
    have h2 := C.dom id o k
    by_cases hid : id = γ r
    · omega
    · rw [upd_ne _ _ hid]; exact h1
  · rw [upd_ne _ _ (by omega)]; exact C.free id h1 h2
  · rw [upd_ne _ _ (by omega)]; exact C.top id h1
  · rw [upd_ne _ _ (by omega)]
  · refine ⟨by simp [F.size], fun i h1 h2 => ?_, fun i hi => ?_, fun i hl hi => ?_, fun i j xs ys hi hj hne h1 h2 => ?_, F.dis, F.GM⟩
    · have hne : r ≠ i := fun e => by subst e; rw [hL] at h1; simp at h1
      rw [getD_set, if_neg (fun h => hne h.1)]; exact (F.val i h1 h2).mono hle
    · by_cases hid : r = i
      · subst hid
        rw [getD_set, if_pos ⟨rfl, hrl⟩]
        obtain ⟨e1, e2⟩ := hα r cs hL hr
        exact .inr ⟨cs'.toArray, rfl, o1, o2, by simp [upd_self], by rw [e1, e2]; exact o4⟩
      · rw [getD_set, if_neg (fun h => hid h.1)]
        rcases F.loc i hi with h0 | ⟨xs, h1, h2, h3, h4, h5⟩
        · exact .inl h0
        · obtain ⟨e1, e2⟩ := hα i xs hi h1
          refine .inr ⟨xs, h1, h2, h3, ?_, by rw [e1, e2]; exact h5⟩
          rw [upd_ne _ _ (fun e => F.inj i r xs cs hi hL (fun e => hid e.symm) h1 hr e)]; exact h4
    · have hne : r ≠ i := fun e => by subst e; rw [hL] at hl; simp at hl
      rw [getD_set, if_neg (fun h => hne h.1)]
      rcases F.der i hl hi with h0 | ⟨r', o, xs, h1, h2, h3, h4⟩
      · exact .inl h0
      · obtain ⟨e1, e2⟩ := hα r' xs h2 h3
        by_cases hrr : r = r'
        · subst hrr; exact .inr ⟨r, o, cs'.toArray, h1, h2, by rw [getD_set, if_pos ⟨rfl, hrl⟩], by rw [e1, e2]; exact h4⟩
        · exact .inr ⟨r', o, xs, h1, h2, by rw [getD_set, if_neg (fun h => hrr h.1)]; exact h3, by rw [e1, e2]; exact h4⟩
    · have old : ∀ i xs, (t.set r (.agg cs'.toArray)).getD i undef = .agg xs → ∃ ys, t.getD i undef = .agg ys := fun i xs h => by
        rw [getD_set] at h
        split at h
        · rename_i he; rw [← he.1]; exact ⟨_, hr⟩
        · exact ⟨_, h⟩
      obtain ⟨_, h1⟩ := old i xs h1
      obtain ⟨_, h2⟩ := old j ys h2
      exact F.inj i j _ _ hi hj hne h1 h2

end
end Go.Am
