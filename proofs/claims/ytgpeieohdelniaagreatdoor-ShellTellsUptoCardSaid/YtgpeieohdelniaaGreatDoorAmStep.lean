/- One operation: from the abstract machine to the world. -/
import Derived.Test.YtgpeieohdelniaaGreatDoorAmLocal
import Derived.Test.YtgpeieohdelniaaGreatDoorAmOps7
namespace Go.Am
open Go Go.RowKit

/-! what is taken apart is the same value -/
section
variable {R : Type}
theorem vInt_eq {k : IntKind} {v : Value} {n : Int} (h : vInt k v = some n) : v = .int k n := by
  unfold vInt at h; split at h
  · split at h
    · rename_i hk; simp at h; subst h; subst hk; rfl
    · simp at h
  · simp at h
theorem vOne_eq {v u : Value} (h : vOne v = some u) : u = v ∧ one1 v = true := by
  unfold vOne at h; split at h
  · rename_i h1; simp at h; exact ⟨h.symm, h1⟩
  · simp at h
theorem decoSc_eq {s : Sc} {v : Value} {f : Value → Option R} {r : R} (h : decoSc s v f = some r) : f v = some r := by
  cases s
  · obtain ⟨n, hn, h⟩ := Option.bind_eq_some_iff.1 h; rw [vInt_eq hn]; exact h
  · obtain ⟨n, hn, h⟩ := Option.bind_eq_some_iff.1 h
    unfold vBool at hn; split at hn
    · simp at hn; subst hn; exact h
    · simp at hn
  · obtain ⟨n, hn, h⟩ := Option.bind_eq_some_iff.1 h
    unfold vStr at hn; split at hn
    · simp at hn; subst hn; exact h
    · simp at hn
  · obtain ⟨n, hn, h⟩ := Option.bind_eq_some_iff.1 h
    unfold vPtr at hn; split at hn
    · simp at hn; subst hn; exact h
    · simp at hn
  · obtain ⟨n, hn, h⟩ := Option.bind_eq_some_iff.1 h
    unfold vSl at hn; split at hn
    · simp at hn; subst hn; exact h
    · simp at hn
  · obtain ⟨n, hn, h⟩ := Option.bind_eq_some_iff.1 h
    unfold vMap at hn; split at hn
    · simp at hn; subst hn; exact h
    · simp at hn
  · obtain ⟨n, hn, h⟩ := Option.bind_eq_some_iff.1 h; rw [← (vOne_eq hn).1]; exact h
theorem decoL_eq {cs : List Value} : ∀ (ss : List Sc) (i : Nat) (f : List Value → Option R) (r : R), decoL cs f ss i = some r → f ((List.range' i ss.length).map fun j => cs.getD j undef) = some r := by
  intro ss
  induction ss with
  | nil => intro i f r h; simpa [decoL] using h
  | cons s ss ih =>
    intro i f r h
    have h1 := decoSc_eq h
    have h2 := ih _ _ _ h1
    simpa [List.range'_succ] using h2
theorem getD_range (cs : List Value) : (List.range' 0 cs.length).map (fun j => cs.getD j undef) = cs := by
  apply List.ext_getElem
  · simp
  · intro i h1 h2
    have h3 : i < cs.length := by simpa using h2
    simp [List.getElem?_eq_getElem h3]
theorem vAgg_eq {n : Nat} {v : Value} {cs : List Value} (h : vAgg n v = some cs) : v = .agg cs.toArray ∧ cs.length = n := by
  unfold vAgg at h; split at h
  · split at h
    · rename_i hs; simp at h; subst h; exact ⟨rfl, by simpa using hs⟩
    · simp at h
  · simp at h
theorem vTup_eq {n : Nat} {v : Value} {cs : List Value} (h : vTup n v = some cs) : v = .tuple cs.toArray ∧ cs.length = n := by
  unfold vTup at h; split at h
  · split at h
    · rename_i hs; simp at h; subst h; exact ⟨rfl, by simpa using hs⟩
    · simp at h
  · simp at h
theorem deco1_eq {s : Shape1} {v : Value} {f : Value → Option R} {r : R} (h : deco1 s v f = some r) : f v = some r := by
  cases s with
  | sc s => exact decoSc_eq h
  | agg l =>
    obtain ⟨cs, hcs, h2⟩ := Option.bind_eq_some_iff.1 h
    obtain ⟨rfl, hl⟩ := vAgg_eq hcs
    have := decoL_eq _ _ _ _ h2
    rw [← hl, getD_range] at this; exact this
theorem decoT_eq {cs : List Value} : ∀ (ss : List Shape1) (i : Nat) (f : List Value → Option R) (r : R), decoT cs f ss i = some r → f ((List.range' i ss.length).map fun j => cs.getD j undef) = some r := by
  intro ss
  induction ss with
  | nil => intro i f r h; simpa [decoT] using h
  | cons s ss ih =>
    intro i f r h
    have h1 := deco1_eq h
    have h2 := ih _ _ _ h1
    simpa [List.range'_succ] using h2
theorem deco_eq {s : Shape} {v : Value} {f : Value → Option R} {r : R} (h : deco s v f = some r) : f v = some r := by
  cases s with
  | one s => exact deco1_eq h
  | tup l =>
    obtain ⟨cs, hcs, h2⟩ := Option.bind_eq_some_iff.1 h
    obtain ⟨rfl, hl⟩ := vTup_eq hcs
    have := decoT_eq _ _ _ _ h2
    rw [← hl, getD_range] at this; exact this
end

/-- An operation as it is, with no eye on what follows. -/
inductive IsOp (P : Program) (h : St) (ρ : Operand → Value) (o : Oper) : Value → St → Prop where
  | move (x : Operand) (he : o.op = .move x ∨ o.op = .assign x) : IsOp P h ρ o (ρ x) h
  | pick (c a b : Operand) (q : Bool) (he : o.op = .pick c a b) (hc : ρ c = .bool q) : IsOp P h ρ o (apick q (ρ a) (ρ b)) h
  | alloc (t : TypeId) (v : Value) (h' : St) (he : o.op = .alloc t) (k : aalloc P h t = some (v, h')) : IsOp P h ρ o v h'
  | box (t : TypeId) (x : Operand) (he : o.op = .box t x) : IsOp P h ρ o (abox h (ρ x)).1 (abox h (ρ x)).2
  | build (t : TypeId) (ps : Array (Nat × Operand)) (v : Value) (he : o.op = .build t ps) (k : abuild P t (ps.toList.map fun p => (p.1, ρ p.2)) = some v) : IsOp P h ρ o v h
  | buildSlice (t : TypeId) (n : Nat) (ps : Array (Nat × Operand)) (v : Value) (h' : St) (he : o.op = .buildSlice t n ps) (k : abuildSlice P h t n (ps.toList.map fun p => (p.1, ρ p.2)) = some (v, h')) : IsOp P h ρ o v h'
  | load (t : TypeId) (a : Operand) (v : Value) (he : o.op = .load t a) (k : aload P h t (ρ a) = some v) : IsOp P h ρ o v h
  | store (t : TypeId) (a x : Operand) (h' : St) (he : o.op = .store t a x) (k : astore P h t (ρ a) (ρ x) = some h') : IsOp P h ρ o undef h'
  | nilPtr (x : Operand) (a : Addr) (he : o.op = .nilCheck x) (hx : ρ x = .pointer (some a)) : IsOp P h ρ o (ρ x) h
  | nilFun (x : Operand) (f : FuncId) (a b : Array Value) (he : o.op = .nilCheck x) (hx : ρ x = .func (.func f) a b) : IsOp P h ρ o (ρ x) h
  | bin (op : BinOp) (t : TypeId) (x y : Operand) (yt : TypeId) (v : Value) (he : o.op = .binOp op t x y yt) (k : abin P h op t x y (ρ x) (ρ y) = some v) : IsOp P h ρ o v h
  | un (op : UnOp) (t : TypeId) (x : Operand) (v : Value) (he : o.op = .unOp op t x) (k : aun op (ρ x) = some v) : IsOp P h ρ o v h
  | convert (s d : TypeId) (x : Operand) (v : Value) (he : o.op = .convert s d x) (k : aconvert P s d (ρ x) = some v) : IsOp P h ρ o v h
  | bytes (s d : TypeId) (x : Operand) (v : ByteArray) (he : o.op = .convert s d x) (hb : isBytes P s d = true) (k : sbytes h (ρ x) = some v) : IsOp P h ρ o (.string v) h
  | iface (t : TypeId) (x : Operand) (d : TypeDesc) (he : o.op = .makeInterface t x) (hu : P.underlying t = some d) (hd : ∀ ms, d ≠ .interface ms) : IsOp P h ρ o (.iface t (ρ x)) h
  | func (f : FuncId) (a b : Array Operand) (he : o.op = .makeFunc (.func f) a b) : IsOp P h ρ o (.func (.func f) (a.toList.map ρ).toArray (b.toList.map ρ).toArray) h
  | makeMap (t a e : TypeId) (r : Option Operand) (he : o.op = .makeMap t r) (hu : P.underlying t = some (.map a e)) (hr : r.map ρ = none ∨ ∃ k n, r.map ρ = some (.int k n)) : IsOp P h ρ o (.map (some h.next)) (h.new (.map false []))
  | makeSlice (t : TypeId) (l c : Operand) (v : Value) (h' : St) (he : o.op = .makeSlice t l c) (k : amakeSlice P h t (ρ l) (ρ c) = some (v, h')) : IsOp P h ρ o v h'
  | slice (t : TypeId) (x : Operand) (lo hi : Option Operand) (v : Value) (he : o.op = .slice t x lo hi none) (k : aslice P h t (ρ x) (lo.map ρ) (hi.map ρ) = some v) : IsOp P h ρ o v h
  | fieldAddr (t : TypeId) (x : Operand) (f : Nat) (v : Value) (he : o.op = .fieldAddr t x f) (k : afieldAddr P t (ρ x) f = some v) : IsOp P h ρ o v h
  | field (t : TypeId) (x : Operand) (f : Nat) (v : Value) (he : o.op = .field t x f) (k : afield P t (ρ x) f = some v) : IsOp P h ρ o v h
  | indexAddr (t : TypeId) (x i : Operand) (v : Value) (he : o.op = .indexAddr t x i) (k : aindexAddr P t (ρ x) (ρ i) = some v) : IsOp P h ρ o v h
  | index (t : TypeId) (x i : Operand) (v : Value) (he : o.op = .index t x i) (k : aindex P t (ρ x) (ρ i) = some v) : IsOp P h ρ o v h
  | lookup (t : TypeId) (x i : Operand) (ok : Bool) (v : Value) (he : o.op = .lookup t x i ok) (k : alookup P h t (ρ x) (ρ i) ok = some v) : IsOp P h ρ o v h
  | mapUpdate (t : TypeId) (m i x : Operand) (h' : St) (he : o.op = .mapUpdate t m i x ∨ o.op = .insert t m i x) (k : amapUpdate P h t (ρ m) (ρ i) (ρ x) = some h') : IsOp P h ρ o undef h'
  | extract (x : Operand) (i : Nat) (vs : Array Value) (v : Value) (he : o.op = .extract x i) (hx : ρ x = .tuple vs) (k : vs.toList[i]? = some v) : IsOp P h ρ o v h
  | len (args : Array Operand) (ts : Array TypeId) (t : TypeId) (x v : Value) (he : o.op = .call ⟨.builtin .len, args, ts⟩) (ht : ts.toList = [t]) (hx : args.toList.map ρ = [x]) (k : alen P h t x = some v) : IsOp P h ρ o v h
  | append (args : Array Operand) (ts : Array TypeId) (t u : TypeId) (d : TypeDesc) (s x v : Value) (h' : St) (he : o.op = .call ⟨.builtin .append, args, ts⟩) (ht : ts.toList = [t, u]) (hx : args.toList.map ρ = [s, x])
      (hu : P.underlying u = some d) (hd : (∃ e', d = .slice e') ∨ d = .string) (k : aappend P h t s x = some (v, h')) : IsOp P h ρ o v h'
  | copy (args : Array Operand) (ts : Array TypeId) (t u : TypeId) (d x v : Value) (h' : St) (he : o.op = .call ⟨.builtin .copy, args, ts⟩) (ht : ts.toList = [t, u]) (hx : args.toList.map ρ = [d, x]) (k : acopy P h t d x = some (v, h')) : IsOp P h ρ o v h'
  | clear (args : Array Operand) (ts : Array TypeId) (t : TypeId) (d : Value) (h' : St) (he : o.op = .call ⟨.builtin .clear, args, ts⟩) (ht : ts.toList = [t]) (hx : args.toList.map ρ = [d]) (k : aclear P h t d = some h') : IsOp P h ρ o undef h'
  | max (args : Array Operand) (ts : Array TypeId) (v : Value) (he : o.op = .call ⟨.builtin .max, args, ts⟩) (k : aminmax true (args.toList.map ρ) = some v) : IsOp P h ρ o v h
  | min (args : Array Operand) (ts : Array TypeId) (v : Value) (he : o.op = .call ⟨.builtin .min, args, ts⟩) (k : aminmax false (args.toList.map ρ) = some v) : IsOp P h ρ o v h

theorem aop_is {R : Type} {P : Program} {h : St} {ρ : Operand → Value} {o : Oper} {k : Value → St → Option R} {r : R} (e : aop P h ρ o k = some r) : ∃ v h', IsOp P h ρ o v h' ∧ k v h' = some r := by
  unfold aop at e
  split at e
  · rename_i x hx; exact ⟨_, _, .move x (.inl hx), e⟩
  · rename_i x hx; exact ⟨_, _, .move x (.inr hx), e⟩
  · rename_i c a b hx
    split at e
    · rename_i q hq; exact ⟨_, _, .pick c a b q hx hq, e⟩
    · simp at e
  · rename_i t hx; obtain ⟨⟨v, h'⟩, hk, e⟩ := Option.bind_eq_some_iff.1 e; exact ⟨_, _, .alloc t v h' hx hk, e⟩
  · rename_i t x hx; exact ⟨_, _, .box t x hx, e⟩
  · rename_i t ps hx; obtain ⟨v, hk, e⟩ := Option.bind_eq_some_iff.1 e; exact ⟨_, _, .build t ps v hx hk, e⟩
  · rename_i t n ps hx; obtain ⟨⟨v, h'⟩, hk, e⟩ := Option.bind_eq_some_iff.1 e; exact ⟨_, _, .buildSlice t n ps v h' hx hk, e⟩
  · rename_i t a hx; obtain ⟨v, hk, e⟩ := Option.bind_eq_some_iff.1 e; exact ⟨_, _, .load t a v hx hk, deco1_eq e⟩
  · rename_i t a x hx; obtain ⟨h', hk, e⟩ := Option.bind_eq_some_iff.1 e; exact ⟨_, _, .store t a x h' hx hk, e⟩
  · rename_i x hx
    split at e
    · rename_i a ha
      obtain ⟨a, rfl, e⟩ := Option.bind_eq_some_iff.1 e
      exact ⟨_, _, .nilPtr x a hx ha, by rw [ha]; exact e⟩
    · obtain ⟨v, hk, e⟩ := Option.bind_eq_some_iff.1 e
      obtain ⟨rfl, ⟨a, ha⟩ | ⟨f, a, b, ha⟩⟩ := vNil_eq hk
      · exact ⟨_, _, .nilPtr x a hx ha, e⟩
      · exact ⟨_, _, .nilFun x f a b hx ha, e⟩
  · rename_i op t x y yt hx; obtain ⟨v, hk, e⟩ := abinK_eq e; exact ⟨_, _, .bin op t x y yt v hx hk, e⟩
  · rename_i op t x hx; obtain ⟨v, hk, e⟩ := Option.bind_eq_some_iff.1 e; exact ⟨_, _, .un op t x v hx hk, e⟩
  · rename_i s d x hx
    split at e
    · rename_i hb; obtain ⟨v, hk, e⟩ := Option.bind_eq_some_iff.1 e; exact ⟨_, _, .bytes s d x v hx hb hk, e⟩
    · obtain ⟨v, hk, e⟩ := Option.bind_eq_some_iff.1 e; exact ⟨_, _, .convert s d x v hx hk, e⟩
  · rename_i t x hx
    split at e
    · simp at e
    · simp at e
    · rename_i n1 n2
      cases hu : P.underlying t with
      | none => exact absurd hu n2
      | some d => exact ⟨_, _, .iface t x d hx hu (fun ms hd => n1 ms (by rw [hu, hd])), e⟩
  · rename_i f a b hx; exact ⟨_, _, .func f a b hx, e⟩
  · rename_i t r hx
    split at e
    · rename_i a b hu hr; exact ⟨_, _, .makeMap t _ _ r hx hu (.inl hr), e⟩
    · rename_i a b kk n hu hr; exact ⟨_, _, .makeMap t _ _ r hx hu (.inr ⟨_, _, hr⟩), e⟩
    · simp at e
  · rename_i t l c hx; obtain ⟨⟨v, h'⟩, hk, e⟩ := Option.bind_eq_some_iff.1 e; exact ⟨_, _, .makeSlice t l c v h' hx hk, deco1_eq e⟩
  · rename_i t x lo hi hx; obtain ⟨v, hk, e⟩ := asliceK_eq e; exact ⟨_, _, .slice t x lo hi v hx hk, e⟩
  · rename_i t x f hx; obtain ⟨v, hk, e⟩ := Option.bind_eq_some_iff.1 e; exact ⟨_, _, .fieldAddr t x f v hx hk, e⟩
  · rename_i t x f hx; obtain ⟨v, hk, e⟩ := Option.bind_eq_some_iff.1 e; exact ⟨_, _, .field t x f v hx hk, e⟩
  · rename_i t x i hx; obtain ⟨v, hk, e⟩ := aindexAddrK_eq e; exact ⟨_, _, .indexAddr t x i v hx hk, e⟩
  · rename_i t x i hx; obtain ⟨v, hk, e⟩ := aindexK_eq e; exact ⟨_, _, .index t x i v hx hk, deco1_eq e⟩
  · rename_i t x i ok hx; obtain ⟨v, hk, e⟩ := alookupK_eq e; exact ⟨_, _, .lookup t x i ok v hx hk, deco_eq e⟩
  · rename_i t m i x hx; obtain ⟨h', hk, e⟩ := Option.bind_eq_some_iff.1 e; exact ⟨_, _, .mapUpdate t m i x h' (.inl hx) hk, e⟩
  · rename_i t m i x hx; obtain ⟨h', hk, e⟩ := Option.bind_eq_some_iff.1 e; exact ⟨_, _, .mapUpdate t m i x h' (.inr hx) hk, e⟩
  · rename_i x i hx
    split at e
    · rename_i vs hv; obtain ⟨v, hk, e⟩ := Option.bind_eq_some_iff.1 e; exact ⟨_, _, .extract x i vs v hx hv hk, e⟩
    · simp at e
  · rename_i b args ts hx
    unfold abuiltin at e
    split at e
    · rename_i t x ht hxs; obtain ⟨v, hk, e⟩ := alenK_eq e; exact ⟨_, _, .len args ts t x v hx ht hxs hk, e⟩
    · rename_i t u s x ht hxs
      split at e
      · rename_i ee hu
        obtain ⟨⟨v, h'⟩, hk, e⟩ := Option.bind_eq_some_iff.1 e
        exact ⟨_, _, .append args ts t u _ s x v h' hx ht hxs hu (.inl ⟨ee, rfl⟩) (noStr_eq hk), deco1_eq e⟩
      · rename_i hu
        split at e
        · obtain ⟨⟨v, h'⟩, hk, e⟩ := Option.bind_eq_some_iff.1 e
          exact ⟨_, _, .append args ts t u _ s x v h' hx ht hxs hu (.inr rfl) hk, deco1_eq e⟩
        · simp at e
      · simp at e
    · rename_i t u d x ht hxs
      obtain ⟨⟨v, h'⟩, hk, e⟩ := Option.bind_eq_some_iff.1 e; exact ⟨_, _, .copy args ts t u d x v h' hx ht hxs (copyOk_eq hk), deco1_eq e⟩
    · rename_i t d ht hxs; obtain ⟨h', hk, e⟩ := Option.bind_eq_some_iff.1 e; exact ⟨_, _, .clear args ts t d h' hx ht hxs hk, e⟩
    · obtain ⟨v, hk, e⟩ := Option.bind_eq_some_iff.1 e; exact ⟨_, _, .max args ts v hx hk, e⟩
    · obtain ⟨v, hk, e⟩ := Option.bind_eq_some_iff.1 e; exact ⟨_, _, .min args ts v hx hk, e⟩
    · simp at e
  · simp at e

theorem IsOp.near {P : Program} {h g : St} {ρ : Operand → Value} {o : Oper} {v : Value} {h' : St} (e : IsOp P h ρ o v h') (s : Sub h g) : ∃ g', IsOp P g ρ o v g' ∧ Moved h h' g g' := by
  cases e with
  | move x he => exact ⟨g, .move x he, .refl s⟩
  | pick c a b q he hc => exact ⟨g, .pick c a b q he hc, .refl s⟩
  | alloc t v h' he k => obtain ⟨g', k', hM⟩ := s.aalloc k; exact ⟨g', .alloc t v g' he k', hM⟩
  | box t x he =>
    have := IsOp.box (P := P) (h := g) (ρ := ρ) t x he
    simp only [abox, s.next] at this ⊢
    exact ⟨_, this, Moved.new s _⟩
  | build t ps v he k => exact ⟨g, .build t ps v he k, .refl s⟩
  | buildSlice t n ps v h' he k => obtain ⟨g', k', hM⟩ := s.abuildSlice k; exact ⟨g', .buildSlice t n ps v g' he k', hM⟩
  | load t a v he k => exact ⟨g, .load t a v he (s.aload k), .refl s⟩
  | store t a x h' he k => obtain ⟨g', k', hM⟩ := s.astore k; exact ⟨g', .store t a x g' he k', hM⟩
  | nilPtr x a he hx => exact ⟨g, .nilPtr x a he hx, .refl s⟩
  | nilFun x f a b he hx => exact ⟨g, .nilFun x f a b he hx, .refl s⟩
  | bin op t x y yt v he k => exact ⟨g, .bin op t x y yt v he (s.abin k), .refl s⟩
  | un op t x v he k => exact ⟨g, .un op t x v he k, .refl s⟩
  | convert s' d x v he k => exact ⟨g, .convert s' d x v he k, .refl s⟩
  | bytes s' d x v he hb k => exact ⟨g, .bytes s' d x v he hb (s.sbytes k), .refl s⟩
  | iface t x d he hu hd => exact ⟨g, .iface t x d he hu hd, .refl s⟩
  | func f a b he => exact ⟨g, .func f a b he, .refl s⟩
  | makeMap t a e r he hu hr =>
    have := IsOp.makeMap (P := P) (h := g) (ρ := ρ) t a e r he hu hr
    rw [s.next] at this
    exact ⟨_, this, Moved.new s _⟩
  | makeSlice t l c v h' he k => obtain ⟨g', k', hM⟩ := s.amakeSlice k; exact ⟨g', .makeSlice t l c v g' he k', hM⟩
  | slice t x lo hi v he k => exact ⟨g, .slice t x lo hi v he (s.aslice k), .refl s⟩
  | fieldAddr t x f v he k => exact ⟨g, .fieldAddr t x f v he k, .refl s⟩
  | field t x f v he k => exact ⟨g, .field t x f v he k, .refl s⟩
  | indexAddr t x i v he k => exact ⟨g, .indexAddr t x i v he k, .refl s⟩
  | index t x i v he k => exact ⟨g, .index t x i v he k, .refl s⟩
  | lookup t x i ok v he k => exact ⟨g, .lookup t x i ok v he (s.alookup k), .refl s⟩
  | mapUpdate t m i x h' he k => obtain ⟨g', k', hM⟩ := s.amapUpdate k; exact ⟨g', .mapUpdate t m i x g' he k', hM⟩
  | extract x i vs v he hx k => exact ⟨g, .extract x i vs v he hx k, .refl s⟩
  | len args ts t x v he ht hx k => exact ⟨g, .len args ts t x v he ht hx (s.alen k), .refl s⟩
  | append args ts t u d s' x v h' he ht hx hu hd k => obtain ⟨g', k', hM⟩ := s.aappend k; exact ⟨g', .append args ts t u d s' x v g' he ht hx hu hd k', hM⟩
  | copy args ts t u d x v h' he ht hx k => obtain ⟨g', k', hM⟩ := s.acopy k; exact ⟨g', .copy args ts t u d x v g' he ht hx k', hM⟩
  | clear args ts t d h' he ht hx k => obtain ⟨g', k', hM⟩ := s.aclear k; exact ⟨g', .clear args ts t d g' he ht hx k', hM⟩
  | max args ts v he k => exact ⟨g, .max args ts v he k, .refl s⟩
  | min args ts v he k => exact ⟨g, .min args ts v he k, .refl s⟩

/-! soundness -/
section
variable {P : Program} {α : Corr} {h h' : St} {B : Nat} {w : World}

theorem OpOut.congr {s s' : Sem Next} {v : Value} (e : s = s') (k : OpOut P α h B w s v h') : OpOut P α h B w s' v h' := e ▸ k

theorem map_rel {m : Mem} {ρ cρ : Operand → Value} {xs : Array Operand} (hρ : ∀ x ∈ xs.toList, VRel α m (ρ x) (cρ x)) : LRel α m (xs.toList.map ρ) (xs.map cρ).toList := by
  refine ⟨by simp, fun i v hv => ?_⟩
  rw [List.getElem?_map] at hv
  cases hx : xs.toList[i]? with
  | none => simp [hx] at hv
  | some x =>
    simp only [hx, Option.map_some, Option.some.injEq] at hv; subst hv
    refine ⟨cρ x, ?_, hρ x (List.mem_of_getElem? hx)⟩
    simp only [Array.toList_map, List.getElem?_map, hx, Option.map_some]

theorem parts_rel {m : Mem} {ρ cρ : Operand → Value} {ps : Array (Nat × Operand)} (hρ : ∀ p ∈ ps.toList, VRel α m (ρ p.2) (cρ p.2)) :
    (ps.toList.map fun p => (p.1, ρ p.2)).length = (ps.map fun (i, x) => (i, cρ x)).toList.length ∧
    ∀ (i : Nat) (p q : Nat × Value), (ps.toList.map fun p => (p.1, ρ p.2))[i]? = some p → (ps.map fun (i, x) => (i, cρ x)).toList[i]? = some q → p.1 = q.1 ∧ VRel α m p.2 q.2 := by
  refine ⟨by simp, fun i p q hp hq => ?_⟩
  rw [List.getElem?_map] at hp
  rw [Array.toList_map, List.getElem?_map] at hq
  cases hx : ps.toList[i]? with
  | none => simp [hx] at hp
  | some x =>
    simp only [hx, Option.map_some, Option.some.injEq] at hp hq
    subst hp; subst hq
    exact ⟨rfl, hρ x (List.mem_of_getElem? hx)⟩

theorem opt_rel {m : Mem} {ρ cρ : Operand → Value} {x : Option Operand} (hρ : ∀ y, x = some y → VRel α m (ρ y) (cρ y)) : BRel α m (x.map ρ) (x.map cρ) := by
  cases x with
  | none => exact .inl ⟨rfl, rfl⟩
  | some y => exact .inr ⟨_, _, rfl, rfl, hρ y rfl⟩

theorem builtin_op {ρ : Operand → Value} {o : Oper} {b : Builtin} {args : Array Operand} {ts : Array TypeId} (he : o.op = .call ⟨.builtin b, args, ts⟩) :
    execOp ρ o = (do let d ← (pure { target := .builtin b ts o.type (args.map fun | .const _ => true | _ => false), args := args.map ρ } : Sem Deferred); invoke d.target d.args) := by
  simp only [execOp, he, resolve]
  rfl

theorem VRel.bool_inv {m : Mem} {q : Bool} {cv : Value} (h : VRel α m (.bool q) cv) : cv = .bool q := by cases h; rfl
theorem VRel.int_inv {m : Mem} {k : IntKind} {n : Int} {cv : Value} (h : VRel α m (.int k n) cv) : cv = .int k n := by cases h; rfl
theorem VRel.ptr_inv {m : Mem} {a : Addr} {cv : Value} (h : VRel α m (.pointer (some a)) cv) : ∃ ca, cv = .pointer (some ca) := by cases h <;> exact ⟨_, rfl⟩
theorem VRel.func_inv {m : Mem} {f : FuncId} {a b : Array Value} {cv : Value} (h : VRel α m (.func (.func f) a b) cv) : ∃ c d, cv = .func (.func f) c d ∧ LRel α m a.toList c.toList ∧ LRel α m b.toList d.toList := by
  cases h with | func f a b c d hs ht h h' => exact ⟨c, d, rfl, LRel.of_arr hs h, LRel.of_arr ht h'⟩
theorem VRel.tuple_inv {m : Mem} {a : Array Value} {cv : Value} (h : VRel α m (.tuple a) cv) : ∃ c, cv = .tuple c ∧ LRel α m a.toList c.toList := by
  cases h with | tuple a b hs hab => exact ⟨_, rfl, LRel.of_arr hs hab⟩
theorem VRel.agg_inv {m : Mem} {a : Array Value} {cv : Value} (h : VRel α m (.agg a) cv) : ∃ c, cv = .agg c ∧ LRel α m a.toList c.toList := by
  cases h with | agg a b hs hab => exact ⟨_, rfl, LRel.of_arr hs hab⟩
theorem LRel.one_inv {m : Mem} {x : Value} {cs : Array Value} (h : LRel α m [x] cs.toList) : ∃ c, cs = #[c] ∧ VRel α m x c := by
  have hl := h.1
  have h0 := h.getD 0
  match hq : cs.toList with
  | [] => rw [hq] at hl; simp at hl
  | [c] => rw [hq] at h0; exact ⟨c, by apply Array.ext'; simpa using hq, by simpa using h0⟩
  | _ :: _ :: _ => rw [hq] at hl; simp at hl
theorem LRel.two_inv {m : Mem} {x y : Value} {cs : Array Value} (h : LRel α m [x, y] cs.toList) : ∃ c d, cs = #[c, d] ∧ VRel α m x c ∧ VRel α m y d := by
  have hl := h.1
  have h0 := h.getD 0
  have h1 := h.getD 1
  match hq : cs.toList with
  | [] => rw [hq] at hl; simp at hl
  | [c] => rw [hq] at hl; simp at hl
  | [c, d] => rw [hq] at h0 h1; exact ⟨c, d, by apply Array.ext'; simpa using hq, by simpa using h0, by simpa using h1⟩
  | _ :: _ :: _ :: _ => rw [hq] at hl; simp at hl

set_option maxHeartbeats 1000000 in
theorem IsOp.sound {ρ cρ : Operand → Value} {o : Oper} {v : Value} (e : IsOp P h ρ o v h') (H : HRel α h.m B w) (hf : h.next < h'.next → h.m h.next = none) (hρ : ∀ x ∈ o.op.operands, VRel α h.m (ρ x) (cρ x)) :
    OpOut P α h B w (execOp cρ o) v h' := by
  cases e with
  | move x he =>
    have hx := hρ x (by rcases he with he | he <;> simp [he, Op.operands])
    refine ⟨α, w, .value (cρ x), ?_, .inl ⟨_, rfl, hx⟩, H, Le.refl _ _, Below.refl _ _⟩
    rcases he with he | he <;> simp [execOp, he]
  | pick c a b q he hc =>
    have hx := hρ c (by simp [he, Op.operands])
    have ha := hρ a (by simp [he, Op.operands])
    have hb := hρ b (by simp [he, Op.operands])
    rw [hc] at hx
    have hcc : cρ c = .bool q := hx.bool_inv
    refine ⟨α, w, .value (if q then cρ a else cρ b), by simp [execOp, he, hcc, asBool], .inl ⟨_, rfl, ?_⟩, H, Le.refl _ _, Below.refl _ _⟩
    unfold apick
    split
    · rename_i x y h1 h2
      rw [h1] at ha; rw [h2] at hb
      cases q
      · simp only [bcond, Bool.false_eq_true, if_false]; exact hb
      · simp only [bcond, if_true]; exact ha
    · cases q
      · simpa using hb
      · simpa using ha
  | alloc t v h' he k =>
    refine OpOut.congr (by simp only [execOp, he]) (ValOut.op (aalloc_sound k H (hf ?_)))
    unfold aalloc at k; rw [Option.bind_eq_some_iff] at k; obtain ⟨z, _, k⟩ := k; simp only [Option.some.injEq, Prod.mk.injEq] at k; rw [← k.2]; simp [St.new]
  | box t x he => exact OpOut.congr (by simp only [execOp, he]) (ValOut.op (abox_sound (t := t) H (hf (by simp [abox, St.new])) (hρ x (by simp [he, Op.operands]))))
  | build t ps v he k =>
    obtain ⟨h1, h2⟩ := parts_rel (α := α) (m := h.m) (ρ := ρ) (cρ := cρ) (ps := ps) (fun p hp => hρ p.2 (by
      simp only [he, Op.operands, List.mem_toArray]; exact List.mem_map.2 ⟨p, hp, rfl⟩))
    exact OpOut.congr (by simp only [execOp, he]) (PureOut.op H (abuild_sound k h1 h2))
  | buildSlice t n ps v h' he k =>
    obtain ⟨h1, h2⟩ := parts_rel (α := α) (m := h.m) (ρ := ρ) (cρ := cρ) (ps := ps) (fun p hp => hρ p.2 (by
      simp only [he, Op.operands, List.mem_toArray]; exact List.mem_map.2 ⟨p, hp, rfl⟩))
    refine OpOut.congr (by simp only [execOp, he]) (ValOut.op (abuildSlice_sound k H (hf ?_) h1 h2))
    unfold abuildSlice at k
    simp only [Option.bind_eq_some_iff] at k
    obtain ⟨e, _, n', _, z, _, k⟩ := k
    split at k
    · rw [Option.bind_eq_some_iff] at k; obtain ⟨cs, _, k⟩ := k; simp only [Option.some.injEq, Prod.mk.injEq] at k; rw [← k.2]; simp [St.new]
    · simp at k
  | load t a v he k => exact OpOut.congr (by simp only [execOp, he]) (PureOut.op H (aload_sound k H (hρ a (by simp [he, Op.operands]))))
  | store t a x h' he k => exact OpOut.congr (by simp only [execOp, he]) (UnitOut.op (astore_sound k H (hρ a (by simp [he, Op.operands])) (hρ x (by simp [he, Op.operands]))))
  | nilPtr x a he hx =>
    have hxr := hρ x (by simp [he, Op.operands])
    rw [hx] at hxr ⊢
    obtain ⟨ca, hca⟩ := hxr.ptr_inv
    exact ⟨α, w, .value (cρ x), by simp [execOp, he, hca], .inl ⟨_, rfl, hxr⟩, H, Le.refl _ _, Below.refl _ _⟩
  | nilFun x f a b he hx =>
    have hxr := hρ x (by simp [he, Op.operands])
    rw [hx] at hxr ⊢
    obtain ⟨c, d, hca, _⟩ := hxr.func_inv
    exact ⟨α, w, .value (cρ x), by simp [execOp, he, hca], .inl ⟨_, rfl, hxr⟩, H, Le.refl _ _, Below.refl _ _⟩
  | bin op t x y yt v he k => exact OpOut.congr (by simp only [execOp, he]) (PureOut.op H (abin_sound k H (hρ x (by simp [he, Op.operands])) (hρ y (by simp [he, Op.operands]))))
  | un op t x v he k => exact OpOut.congr (by simp only [execOp, he]) (PureOut.op H (aun_sound k (hρ x (by simp [he, Op.operands]))))
  | convert s d x v he k => exact OpOut.congr (by simp only [execOp, he]) (PureOut.op H (aconvert_sound k (hρ x (by simp [he, Op.operands]))))
  | bytes s d x v he hb k => exact OpOut.congr (by simp only [execOp, he]) (PureOut.op H (sbytes_sound hb k H (hρ x (by simp [he, Op.operands]))))
  | iface t x d he hu hd =>
    refine OpOut.congr (s := do pure (.value (← Instr.makeInterface t (cρ x)))) (by simp only [execOp, he]) (PureOut.op H ⟨.iface t (cρ x), ?_, .iface _ _ _ (hρ x (by simp [he, Op.operands]))⟩)
    simp only [Instr.makeInterface, Sem.run_bind, run_und hu, Result.andThen_ok]
    cases d <;> first | rfl | exact absurd rfl (hd _)
  | func f a b he =>
    refine ⟨α, w, .value (.func (.func f) (a.map cρ) (b.map cρ)), by simp [execOp, he, Instr.makeFunc], .inl ⟨_, rfl, ?_⟩, H, Le.refl _ _, Below.refl _ _⟩
    have ha := map_rel (α := α) (m := h.m) (ρ := ρ) (cρ := cρ) (xs := a) (fun x hx => hρ x (by simp only [he, Op.operands, Array.mem_append]; exact .inl (by simpa using hx)))
    have hb := map_rel (α := α) (m := h.m) (ρ := ρ) (cρ := cρ) (xs := b) (fun x hx => hρ x (by simp only [he, Op.operands, Array.mem_append]; exact .inr (by simpa using hx)))
    refine .func _ _ _ _ _ (by simp) (by simp) (fun i hi => ?_) (fun i hi => ?_)
    · simpa using ha.to_arr i hi
    · simpa using hb.to_arr i hi
  | makeMap t a e r he hu hr =>
    have hfree := hf (by simp [St.new])
    have hnew := H.fresh hfree (.map false []) (.map #[] 0) 0 (fun α' m' h1 h2 h3 hle => ⟨#[], 0, by rw [h1]; simp, rfl, fun i k v hi => by simp at hi, fun _ => by rw [h1]; exact H.low⟩)
    have hle := Le.fresh (α := α) hfree (.map false []) w.heap.size 0 0
    refine ⟨_, _, .value (.map (some w.heap.size)), ?_, .inl ⟨_, rfl, ?_⟩, hnew, hle, (Below.refl B w).alloc H.low _⟩
    · cases r with
      | none => simp [execOp, he, Instr.makeMap]
      | some x =>
        rcases hr with hr | ⟨k, n, hr⟩
        · simp at hr
        · have hx := hρ x (by simp [he, Op.operands])
          simp only [Option.map_some, Option.some.injEq] at hr
          rw [hr] at hx
          have : cρ x = .int k n := hx.int_inv
          simp [execOp, he, Instr.makeMap, this, run_und hu, asInt, asIntOf]
    · have := VRel.map (α := α.at h.next w.heap.size 0 0) (m := (h.new (.map false [])).m) h.next false [] (upd_self _ _ _)
      rw [Corr.at_blk] at this; exact this
  | makeSlice t l c v h' he k =>
    refine OpOut.congr (by simp only [execOp, he]) (ValOut.op (amakeSlice_sound k H (hf ?_) (hρ l (by simp [he, Op.operands])) (hρ c (by simp [he, Op.operands]))))
    unfold amakeSlice at k
    simp only [Option.bind_eq_some_iff] at k
    obtain ⟨e, _, n', _, z, _, b, _, k⟩ := k
    split at k
    · split at k
      · unfold smake at k
        split at k
        · simp only [Option.some.injEq, Prod.mk.injEq] at k; rw [← k.2]; simp [St.new]
        · simp at k
      · simp at k
    · simp at k
  | slice t x lo hi v he k =>
    exact OpOut.congr (by simp only [execOp, he, Option.map_none]) (PureOut.op H (aslice_sound k (hρ x (by simp [he, Op.operands]))
      (opt_rel (fun y hy => hρ y (by simp [he, Op.operands, hy]))) (opt_rel (fun y hy => hρ y (by simp [he, Op.operands, hy])))))
  | fieldAddr t x f v he k => exact OpOut.congr (by simp only [execOp, he]) (PureOut.op H (afieldAddr_sound k (hρ x (by simp [he, Op.operands]))))
  | field t x f v he k => exact OpOut.congr (by simp only [execOp, he]) (PureOut.op H (afield_sound k (hρ x (by simp [he, Op.operands]))))
  | indexAddr t x i v he k => exact OpOut.congr (by simp only [execOp, he]) (PureOut.op H (aindexAddr_sound k (hρ x (by simp [he, Op.operands])) (hρ i (by simp [he, Op.operands]))))
  | index t x i v he k => exact OpOut.congr (by simp only [execOp, he]) (PureOut.op H (aindex_sound k (hρ x (by simp [he, Op.operands])) (hρ i (by simp [he, Op.operands]))))
  | lookup t x i ok v he k => exact OpOut.congr (by simp only [execOp, he]) (PureOut.op H (alookup_sound k H (hρ x (by simp [he, Op.operands])) (hρ i (by simp [he, Op.operands]))))
  | mapUpdate t m i x h' he k =>
    have hmem : ∀ y, y = m ∨ y = i ∨ y = x → y ∈ o.op.operands := fun y hy => by rcases he with he | he <;> (simp only [he, Op.operands]; simpa using hy)
    exact OpOut.congr (by rcases he with he | he <;> simp only [execOp, he]) (UnitOut.op (amapUpdate_sound k H (hρ m (hmem m (.inl rfl))) (hρ i (hmem i (.inr (.inl rfl)))) (hρ x (hmem x (.inr (.inr rfl))))))
  | extract x i vs v he hx k =>
    have hxr := hρ x (by simp [he, Op.operands])
    rw [hx] at hxr
    obtain ⟨cvs, hc, hL⟩ := hxr.tuple_inv
    obtain ⟨cv, hcv, hR⟩ := hL.2 i v k
    rw [Array.getElem?_toList] at hcv
    exact OpOut.congr (s := do pure (.value (← Instr.extract (cρ x) i))) (by simp only [execOp, he]) (PureOut.op H ⟨cv, by simp [Instr.extract, hc, hcv], hR⟩)
  | len args ts t x v he ht hx k =>
    have hL := map_rel (α := α) (m := h.m) (ρ := ρ) (cρ := cρ) (xs := args) (fun y hy => hρ y (by simp only [he, Op.operands, Call.operands]; simpa using hy))
    rw [hx] at hL
    obtain ⟨cx, hcx, hR⟩ := hL.one_inv
    have hts : ts = #[t] := by apply Array.ext'; simpa using ht
    exact OpOut.congr (by rw [builtin_op he]; simp only [pure_bind, invoke, builtin, hcx, hts]) (PureOut.op H (alen_sound (ty := o.type) k H hR))
  | append args ts t u d s x v h' he ht hx hu hd k =>
    have hL := map_rel (α := α) (m := h.m) (ρ := ρ) (cρ := cρ) (xs := args) (fun y hy => hρ y (by simp only [he, Op.operands, Call.operands]; simpa using hy))
    rw [hx] at hL
    obtain ⟨cs, cx, hcx, hR0, hR1⟩ := hL.two_inv
    have hts : ts = #[t, u] := by apply Array.ext'; simpa using ht
    exact OpOut.congr (by rw [builtin_op he]; simp only [pure_bind, invoke, builtin, hcx, hts]) (ValOut.op (aappend_sound (ty := o.type) k H hf hu hd hR0 hR1))
  | copy args ts t u d x v h' he ht hx k =>
    have hL := map_rel (α := α) (m := h.m) (ρ := ρ) (cρ := cρ) (xs := args) (fun y hy => hρ y (by simp only [he, Op.operands, Call.operands]; simpa using hy))
    rw [hx] at hL
    obtain ⟨cs, cx, hcx, hR0, hR1⟩ := hL.two_inv
    have hts : ts = #[t, u] := by apply Array.ext'; simpa using ht
    exact OpOut.congr (by rw [builtin_op he]; simp only [pure_bind, invoke, builtin, hcx, hts]) (ValOut.op (acopy_sound (u := u) (ty := o.type) k H hR0 hR1))
  | clear args ts t d h' he ht hx k =>
    have hL := map_rel (α := α) (m := h.m) (ρ := ρ) (cρ := cρ) (xs := args) (fun y hy => hρ y (by simp only [he, Op.operands, Call.operands]; simpa using hy))
    rw [hx] at hL
    obtain ⟨cx, hcx, hR⟩ := hL.one_inv
    have hts : ts = #[t] := by apply Array.ext'; simpa using ht
    exact OpOut.congr (by rw [builtin_op he]; simp only [pure_bind, invoke, builtin, hcx, hts]) (ValOut.op (aclear_sound (ty := o.type) k H hR))
  | max args ts v he k =>
    have hL := map_rel (α := α) (m := h.m) (ρ := ρ) (cρ := cρ) (xs := args) (fun y hy => hρ y (by simp only [he, Op.operands, Call.operands]; simpa using hy))
    exact OpOut.congr (by rw [builtin_op he]; simp only [pure_bind, invoke, builtin]) (PureOut.op H (amax_sound (ts := ts) (t := o.type) k hL))
  | min args ts v he k =>
    have hL := map_rel (α := α) (m := h.m) (ρ := ρ) (cρ := cρ) (xs := args) (fun y hy => hρ y (by simp only [he, Op.operands, Call.operands]; simpa using hy))
    exact OpOut.congr (by rw [builtin_op he]; simp only [pure_bind, invoke, builtin]) (PureOut.op H (amin_sound (ts := ts) (t := o.type) k hL))

end
end Go.Am
