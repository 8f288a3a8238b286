/- How the abstract heap stands to the world. -/
import Derived.Test.YtgpeieohdelniaaGreatDoorAmBase
namespace Go.Am
open Go Go.RowKit

/-- Where an object lies: its block, its first cell there, how many cells from there on are its own. -/
structure Corr where
  blk : Nat → Nat
  off : Nat → Nat
  room : Nat → Nat

def Corr.at (α : Corr) (id b o r : Nat) : Corr :=
  { blk := fun i => if i = id then b else α.blk i, off := fun i => if i = id then o else α.off i, room := fun i => if i = id then r else α.room i }

def Located (α : Corr) (id e n off len : Nat) (ca : Addr) (cap : Nat) : Prop :=
  off + len * e ≤ n ∧ (0 < cap → ca = ⟨α.blk id, α.off id + off, none⟩) ∧ off + cap * e ≤ α.room id

inductive VRel (α : Corr) (m : Mem) : Value → Value → Prop where
  | bool (b : Bool) : VRel α m (.bool b) (.bool b)
  | int (k : IntKind) (n : Int) : VRel α m (.int k n) (.int k n)
  | float (k : FloatKind) (n : Nat) : VRel α m (.float k n) (.float k n)
  | complex (k : FloatKind) (a b : Nat) : VRel α m (.complex k a b) (.complex k a b)
  | string (s : ByteArray) : VRel α m (.string s) (.string s)
  | pnil : VRel α m (.pointer none) (.pointer none)
  | pcell (id off : Nat) (ro : Bool) (c : List Value) (h : m id = some (.cells ro c)) :
      VRel α m (.pointer (some ⟨id, off, none⟩)) (.pointer (some ⟨α.blk id, α.off id + off, none⟩))
  | pelem (id off gs : Nat) (ro : Bool) (e g : Nat) (c : List Value) (ca : Addr) (h : m id = some (.arr ro e g c)) (hg : gs ≤ g)
      (hl : gs = g → ca = ⟨α.blk id, α.off id + off, none⟩) : VRel α m (.pointer (some ⟨id, off, some gs⟩)) (.pointer (some ca))
  | snil : VRel α m (.slice none 0 0) (.slice none 0 0)
  | slice (id off len gs : Nat) (ro : Bool) (e g : Nat) (c : List Value) (ca : Addr) (cap : Nat) (h : m id = some (.arr ro e g c)) (hg : gs ≤ g) (hc : len ≤ cap)
      (hl : gs = g → Located α id e c.length off len ca cap) : VRel α m (.slice (some ⟨id, off, none⟩) len gs) (.slice (some ca) len cap)
  | mnil : VRel α m (.map none) (.map none)
  | map (id : Nat) (ro : Bool) (es : List (Value × Value)) (h : m id = some (.map ro es)) : VRel α m (.map (some id)) (.map (some (α.blk id)))
  | chnil : VRel α m (.chan none) (.chan none)
  | func (f : FuncId) (a b c d : Array Value) (hs : a.size = c.size) (ht : b.size = d.size)
      (h : ∀ i, i < a.size → VRel α m (a.getD i undef) (c.getD i undef)) (h' : ∀ i, i < b.size → VRel α m (b.getD i undef) (d.getD i undef)) :
      VRel α m (.func (.func f) a b) (.func (.func f) c d)
  | nilFunc : VRel α m .nilFunc .nilFunc
  | nilIface : VRel α m .nilIface .nilIface
  | iface (t : TypeId) (v w : Value) (h : VRel α m v w) : VRel α m (.iface t v) (.iface t w)
  | agg (a b : Array Value) (hs : a.size = b.size) (h : ∀ i, i < a.size → VRel α m (a.getD i undef) (b.getD i undef)) : VRel α m (.agg a) (.agg b)
  | tuple (a b : Array Value) (hs : a.size = b.size) (h : ∀ i, i < a.size → VRel α m (a.getD i undef) (b.getD i undef)) : VRel α m (.tuple a) (.tuple b)

theorem VRel.undef (α : Corr) (m : Mem) : VRel α m undef undef := .tuple _ _ rfl (fun i hi => by simp at hi)

/-- What an object may become. -/
def stepOk (α α' : Corr) (id : Nat) : AObj → AObj → Prop
  | .cells ro c, .cells ro' c' => ro' = ro ∧ c'.length = c.length ∧ α'.blk id = α.blk id ∧ α'.off id = α.off id
  | .arr ro e g c, .arr ro' e' g' c' => ro' = ro ∧ e' = e ∧ g ≤ g' ∧ (g = g' → c'.length = c.length ∧ α'.blk id = α.blk id ∧ α'.off id = α.off id ∧ α'.room id = α.room id)
  | .map ro _, .map ro' _ => ro' = ro ∧ α'.blk id = α.blk id
  | _, _ => False

def Le (α : Corr) (m : Mem) (α' : Corr) (m' : Mem) : Prop := ∀ id o, m id = some o → ∃ o', m' id = some o' ∧ stepOk α α' id o o'

theorem stepOk.refl (α : Corr) (id : Nat) (o : AObj) : stepOk α α id o o := by cases o <;> simp [stepOk]
theorem stepOk.trans {α α' α'' : Corr} {id : Nat} {o o' o'' : AObj} (h : stepOk α α' id o o') (k : stepOk α' α'' id o' o'') : stepOk α α'' id o o'' := by
  cases o <;> cases o' <;> simp only [stepOk] at h <;> cases o'' <;> simp only [stepOk] at k ⊢
  · obtain ⟨a, b, c, d⟩ := h; obtain ⟨a', b', c', d'⟩ := k; exact ⟨a'.trans a, b'.trans b, c'.trans c, d'.trans d⟩
  · obtain ⟨a, b, c, d⟩ := h; obtain ⟨a', b', c', d'⟩ := k
    refine ⟨a'.trans a, b'.trans b, Nat.le_trans c c', fun e => ?_⟩
    obtain ⟨x1, x2, x3, x4⟩ := d (by omega); obtain ⟨y1, y2, y3, y4⟩ := d' (by omega)
    exact ⟨y1.trans x1, y2.trans x2, y3.trans x3, y4.trans x4⟩
  · exact ⟨k.1.trans h.1, k.2.trans h.2⟩
theorem Le.refl (α : Corr) (m : Mem) : Le α m α m := fun id o h => ⟨o, h, stepOk.refl α id o⟩
theorem Le.trans {α α' α'' : Corr} {m m' m'' : Mem} (h : Le α m α' m') (k : Le α' m' α'' m'') : Le α m α'' m'' := fun id o ho => by
  obtain ⟨o', h', s⟩ := h id o ho
  obtain ⟨o'', h'', s'⟩ := k id o' h'
  exact ⟨o'', h'', s.trans s'⟩

theorem VRel.mono {α α' : Corr} {m m' : Mem} (hle : Le α m α' m') {v w : Value} (h : VRel α m v w) : VRel α' m' v w := by
  induction h with
  | pcell id off ro c h =>
    obtain ⟨o', h', s⟩ := hle id _ h
    cases o' <;> simp only [stepOk] at s
    obtain ⟨_, _, s1, s2⟩ := s
    rw [← s1, ← s2]; exact .pcell _ _ _ _ h'
  | pelem id off gs ro e g c ca h hg hl =>
    obtain ⟨o', h', s⟩ := hle id _ h
    cases o' <;> simp only [stepOk] at s
    obtain ⟨_, _, s1, s2⟩ := s
    refine .pelem _ _ _ _ _ _ _ _ h' (Nat.le_trans hg s1) fun e => ?_
    obtain ⟨_, x, y, _⟩ := s2 (by omega)
    rw [x, y]; exact hl (by omega)
  | slice id off len gs ro e g c ca cap h hg hc hl =>
    obtain ⟨o', h', s⟩ := hle id _ h
    cases o' <;> simp only [stepOk] at s
    obtain ⟨_, he, s1, s2⟩ := s
    refine .slice _ _ _ _ _ _ _ _ _ _ h' (Nat.le_trans hg s1) hc fun e => ?_
    obtain ⟨z, x, y, u⟩ := s2 (by omega)
    have := hl (by omega)
    unfold Located at *
    rw [x, y, u, z, he]; exact this
  | map id ro es h =>
    obtain ⟨o', h', s⟩ := hle id _ h
    cases o' <;> simp only [stepOk] at s
    rw [← s.2]; exact .map _ _ _ h'
  | func f a b c d hs ht h h' ih ih' => exact .func f a b c d hs ht ih ih'
  | iface t v w h ih => exact .iface t v w ih
  | agg a b hs h ih => exact .agg a b hs ih
  | tuple a b hs h ih => exact .tuple a b hs ih
  | bool b => exact .bool b
  | int k n => exact .int k n
  | float k n => exact .float k n
  | complex k a b => exact .complex k a b
  | string s => exact .string s
  | pnil => exact .pnil
  | snil => exact .snil
  | mnil => exact .mnil
  | chnil => exact .chnil
  | nilFunc => exact .nilFunc
  | nilIface => exact .nilIface

theorem flat_rel (α : Corr) (m : Mem) : ∀ (n : Nat) (v : Value), flatN n v = true → VRel α m v v := by
  intro n
  induction n with
  | zero => intro v h; simp [flatN] at h
  | succ n ih =>
    intro v h
    have arr : ∀ (cs : Array Value), cs.toList.all (flatN n) = true → ∀ i, i < cs.size → VRel α m (cs.getD i undef) (cs.getD i undef) := by
      intro cs hc i hi
      rw [List.all_eq_true] at hc
      have : cs.getD i undef = cs[i] := by simp [Array.getD, hi]
      rw [this]
      exact ih _ (hc _ (by simp))
    cases v with
    | bool b => exact .bool b
    | int k n => exact .int k n
    | float k n => exact .float k n
    | complex k a b => exact .complex k a b
    | string s => exact .string s
    | pointer a => cases a with
      | none => exact .pnil
      | some a => simp [flatN] at h
    | slice a l c => cases a with
      | none => simp [flatN] at h; obtain ⟨rfl, rfl⟩ := h; exact .snil
      | some a => simp [flatN] at h
    | map r => cases r with
      | none => exact .mnil
      | some a => simp [flatN] at h
    | chan r => cases r with
      | none => exact .chnil
      | some a => simp [flatN] at h
    | func fn a b =>
      cases fn with
      | func f =>
        simp only [flatN, Bool.and_eq_true] at h
        exact .func f a b a b rfl rfl (arr a h.1) (arr b h.2)
      | _ => simp [flatN] at h
    | nilFunc => exact .nilFunc
    | iface t v => exact .iface t v v (ih v (by simpa [flatN] using h))
    | nilIface => exact .nilIface
    | agg cs => exact .agg cs cs rfl (arr cs (by simpa [flatN] using h))
    | tuple cs => exact .tuple cs cs rfl (arr cs (by simpa [flatN] using h))

theorem arr_ext {a b : Array Value} (hs : a.size = b.size) (h : ∀ i, i < a.size → b.getD i undef = a.getD i undef) : b = a := by
  apply Array.ext hs.symm
  intro i h1 h2
  have := h i h2
  simpa [Array.getD, h1, h2] using this

theorem flat_eq {α : Corr} {m : Mem} {v w : Value} (h : VRel α m v w) : ∀ (n : Nat), flatN n v = true → w = v := by
  induction h with
  | func f a b c d hs ht h h' ih ih' =>
    intro n hn
    cases n with
    | zero => simp [flatN] at hn
    | succ n =>
      simp only [flatN, Bool.and_eq_true, List.all_eq_true] at hn
      rw [arr_ext hs fun i hi => ih i hi n (hn.1 _ (by simp [Array.getD, hi])), arr_ext ht fun i hi => ih' i hi n (hn.2 _ (by simp [Array.getD, hi]))]
  | iface t v w h ih =>
    intro n hn
    cases n with
    | zero => simp [flatN] at hn
    | succ n => rw [ih n (by simpa [flatN] using hn)]
  | agg a b hs h ih =>
    intro n hn
    cases n with
    | zero => simp [flatN] at hn
    | succ n =>
      simp only [flatN, List.all_eq_true] at hn
      rw [arr_ext hs fun i hi => ih i hi n (hn _ (by simp [Array.getD, hi]))]
  | tuple a b hs h ih =>
    intro n hn
    cases n with
    | zero => simp [flatN] at hn
    | succ n =>
      simp only [flatN, List.all_eq_true] at hn
      rw [arr_ext hs fun i hi => ih i hi n (hn _ (by simp [Array.getD, hi]))]
  | pcell id off ro c h => intro n hn; cases n <;> simp [flatN] at hn
  | pelem id off gs ro e g c ca h hg hl => intro n hn; cases n <;> simp [flatN] at hn
  | slice id off len gs ro e g c ca cap h hg hl => intro n hn; cases n <;> simp [flatN] at hn
  | map id ro es h => intro n hn; cases n <;> simp [flatN] at hn
  | _ => intros; rfl

/-! cells -/
/-- Pointwise. -/
def LRel (α : Corr) (m : Mem) (a b : List Value) : Prop := a.length = b.length ∧ ∀ (i : Nat) (v : Value), a[i]? = some v → ∃ w : Value, b[i]? = some w ∧ VRel α m v w
theorem LRel.mono {α α' : Corr} {m m' : Mem} (hle : Le α m α' m') {a b : List Value} (h : LRel α m a b) : LRel α' m' a b :=
  ⟨h.1, fun i v hv => let ⟨w, hw, r⟩ := h.2 i v hv; ⟨w, hw, r.mono hle⟩⟩
theorem LRel.nil (α : Corr) (m : Mem) : LRel α m [] [] := ⟨rfl, fun i v h => by simp at h⟩
theorem LRel.cons {α : Corr} {m : Mem} {v w : Value} {a b : List Value} (hv : VRel α m v w) (h : LRel α m a b) : LRel α m (v :: a) (w :: b) :=
  ⟨by simp [h.1], fun i u hu => by
    cases i with
    | zero => simp at hu ⊢; exact hu ▸ hv
    | succ i => simp at hu ⊢; exact h.2 i u hu⟩
theorem LRel.getD {α : Corr} {m : Mem} {a b : List Value} (h : LRel α m a b) (i : Nat) : VRel α m (a.getD i undef) (b.getD i undef) := by
  rw [List.getD_eq_getElem?_getD, List.getD_eq_getElem?_getD]
  cases ha : a[i]? with
  | some v => obtain ⟨w, hw, r⟩ := h.2 i v ha; simp [hw, r]
  | none =>
    have h1 := h.1
    have : b[i]? = none := by rw [List.getElem?_eq_none_iff] at ha ⊢; omega
    simp only [this, Option.getD_none]; exact VRel.undef α m
theorem LRel.append {α : Corr} {m : Mem} {a b c d : List Value} (h : LRel α m a b) (k : LRel α m c d) : LRel α m (a ++ c) (b ++ d) := by
  refine ⟨by simp [h.1, k.1], fun i v hv => ?_⟩
  rw [List.getElem?_append] at hv ⊢
  rw [← h.1]
  split at hv
  · rename_i hi; simp only [hi, if_true]; exact h.2 i v hv
  · rename_i hi; simp only [hi, if_false]; exact k.2 _ v hv
theorem LRel.take {α : Corr} {m : Mem} {a b : List Value} (h : LRel α m a b) (n : Nat) : LRel α m (a.take n) (b.take n) := by
  refine ⟨by simp [h.1], fun i v hv => ?_⟩
  rw [List.getElem?_take] at hv ⊢
  split at hv
  · rename_i hi; simp only [hi, if_true]; exact h.2 i v hv
  · simp at hv
theorem LRel.drop {α : Corr} {m : Mem} {a b : List Value} (h : LRel α m a b) (n : Nat) : LRel α m (a.drop n) (b.drop n) := by
  refine ⟨by simp [h.1], fun i v hv => ?_⟩
  rw [List.getElem?_drop] at hv ⊢
  exact h.2 _ v hv
theorem LRel.set {α : Corr} {m : Mem} {a b : List Value} (h : LRel α m a b) {v w : Value} (hv : VRel α m v w) (n : Nat) : LRel α m (a.set n v) (b.set n w) := by
  refine ⟨by simp [h.1], fun i u hu => ?_⟩
  rw [List.getElem?_set] at hu ⊢
  split at hu
  · rename_i hi; subst hi
    split at hu
    · rename_i hl; rw [← h.1]; simp only [hl, if_true]; simp at hu; subst hu; exact ⟨w, rfl, hv⟩
    · simp at hu
  · rename_i hi; simp only [hi, if_false]; exact h.2 _ u hu
theorem LRel.flat {α : Corr} {m : Mem} {a : List Value} (h : ∀ v ∈ a, flatN 4 v = true) : LRel α m a a :=
  ⟨rfl, fun i v hv => ⟨v, hv, flat_rel α m 4 v (h v (List.mem_of_getElem? hv))⟩⟩
theorem LRel.of_arr {α : Corr} {m : Mem} {a b : Array Value} (hs : a.size = b.size) (h : ∀ i, i < a.size → VRel α m (a.getD i Go.undef) (b.getD i Go.undef)) : LRel α m a.toList b.toList := by
  refine ⟨by simp [hs], fun i v hv => ?_⟩
  rw [Array.getElem?_toList] at hv ⊢
  have hi : i < a.size := (Array.getElem?_eq_some_iff.1 hv).1
  have hi' : i < b.size := by omega
  have := h i hi
  rw [Array.getElem?_eq_getElem hi] at hv
  simp at hv
  refine ⟨b[i], by simp [hi'], ?_⟩
  simpa [Array.getD, hi, hi', hv] using this
theorem LRel.to_arr {α : Corr} {m : Mem} {a b : List Value} (h : LRel α m a b) : ∀ i, i < a.toArray.size → VRel α m (a.toArray.getD i Go.undef) (b.toArray.getD i Go.undef) := by
  intro i hi
  have := h.getD i
  simpa only [Array.getD_eq_getD_getElem?, List.getElem?_toArray, List.getD_eq_getElem?_getD] using this
theorem LRel.agg {α : Corr} {m : Mem} {a b : List Value} (h : LRel α m a b) : VRel α m (.agg a.toArray) (.agg b.toArray) := .agg _ _ (by simp [h.1]) h.to_arr
theorem LRel.agg' {α : Corr} {m : Mem} {a b : Array Value} (h : LRel α m a.toList b.toList) : VRel α m (.agg a) (.agg b) := by
  have := h.agg; simpa using this
theorem LRel.tuple' {α : Corr} {m : Mem} {a b : Array Value} (h : LRel α m a.toList b.toList) : VRel α m (.tuple a) (.tuple b) := by
  have := VRel.tuple _ _ (by simpa using h.1) h.to_arr
  simpa using this

theorem VRel.cells {α : Corr} {m : Mem} {v w : Value} (h : VRel α m v w) : LRel α m v.cells.toList w.cells.toList := by
  cases h with
  | agg a b hs h => exact LRel.of_arr hs h
  | _ => all_goals (simp only [Value.cells]; refine LRel.cons ?_ (LRel.nil _ _); first | assumption | (constructor <;> assumption) | constructor)
theorem VRel.cells_size {α : Corr} {m : Mem} {v w : Value} (h : VRel α m v w) : v.cells.size = w.cells.size := by simpa using h.cells.1
theorem VRel.one1 {α : Corr} {m : Mem} {v w : Value} (h : VRel α m v w) : one1 w = one1 v := by cases h <;> rfl

/-! the heap -/
def CRel (α : Corr) (m : Mem) (c : List Value) (cs : Array Value) (o : Nat) : Prop := ∀ (i : Nat) (v : Value), c[i]? = some v → ∃ w : Value, cs[o + i]? = some w ∧ VRel α m v w
theorem CRel.mono {α α' : Corr} {m m' : Mem} (hle : Le α m α' m') {c : List Value} {cs : Array Value} {o : Nat} (h : CRel α m c cs o) : CRel α' m' c cs o :=
  fun i v hv => let ⟨w, hw, r⟩ := h i v hv; ⟨w, hw, r.mono hle⟩

def ORel (α : Corr) (m : Mem) (B : Nat) (w : World) (id : Nat) : AObj → Prop
  | .cells ro c => ∃ cs T fr, w.heap[α.blk id]? = some (.cells cs T fr) ∧ CRel α m c cs (α.off id) ∧ (ro = false → fr = (0, 0) ∧ B ≤ α.blk id)
  | .arr ro e g c => ∃ cs T fr, w.heap[α.blk id]? = some (.cells cs T fr) ∧ CRel α m c cs (α.off id) ∧
      (ro = false → fr = (0, 0) ∧ B ≤ α.blk id ∧ c.length ≤ α.room id ∧ α.off id + α.room id ≤ cs.size)
  | .map ro es => ∃ es' clk, w.heap[α.blk id]? = some (.map es' clk) ∧ es'.size = es.length ∧
      (∀ (i : Nat) (k v : Value), es[i]? = some (k, v) → ∃ e : MapEntry, es'[i]? = some e ∧ e.key = k ∧ VRel α m v e.val) ∧ (ro = false → B ≤ α.blk id)

def AObj.ro : AObj → Bool
  | .cells ro _ | .arr ro _ _ _ | .map ro _ => ro

structure HRel (α : Corr) (m : Mem) (B : Nat) (w : World) : Prop where
  obj : ∀ id o, m id = some o → ORel α m B w id o
  sep : ∀ i j a b, m i = some a → m j = some b → i ≠ j → a.ro = false → α.blk i ≠ α.blk j
  low : B ≤ w.heap.size

theorem ORel.lt {α : Corr} {m : Mem} {B : Nat} {w : World} {id : Nat} {o : AObj} (h : ORel α m B w id o) : α.blk id < w.heap.size := by
  cases o <;> (obtain ⟨_, _, h⟩ := h; first | (obtain ⟨_, h, _⟩ := h; exact (Array.getElem?_eq_some_iff.1 h).1) | (exact (Array.getElem?_eq_some_iff.1 h.1).1))
theorem ORel.high {α : Corr} {m : Mem} {B : Nat} {w : World} {id : Nat} {o : AObj} (h : ORel α m B w id o) (hr : o.ro = false) : B ≤ α.blk id := by
  cases o with
  | cells ro c => obtain ⟨_, _, _, _, _, h⟩ := h; exact (h hr).2
  | arr ro e g c => obtain ⟨_, _, _, _, _, h⟩ := h; exact (h hr).2.1
  | map ro es => obtain ⟨_, _, _, _, _, h⟩ := h; exact h hr

/-- An object is as it was where its block, its place and the relation of what it holds are. -/
theorem ORel.keep {α α' : Corr} {m m' : Mem} {B : Nat} {w w' : World} {id : Nat} {o : AObj} (h : ORel α m B w id o) (hle : Le α m α' m')
    (hb : α'.blk id = α.blk id) (ho : α'.off id = α.off id) (hr : α'.room id = α.room id) (hw : w'.heap[α.blk id]? = w.heap[α.blk id]?) : ORel α' m' B w' id o := by
  cases o with
  | cells ro c =>
    obtain ⟨cs, T, fr, h1, h2, h3⟩ := h
    exact ⟨cs, T, fr, by rw [hb, hw]; exact h1, by rw [ho]; exact h2.mono hle, by rw [hb]; exact h3⟩
  | arr ro e g c =>
    obtain ⟨cs, T, fr, h1, h2, h3⟩ := h
    exact ⟨cs, T, fr, by rw [hb, hw]; exact h1, by rw [ho]; exact h2.mono hle, by rw [hb, ho, hr]; exact h3⟩
  | map ro es =>
    obtain ⟨es', clk, h1, h2, h3, h4⟩ := h
    exact ⟨es', clk, by rw [hb, hw]; exact h1, h2, fun i k v hv => let ⟨e, a, b, c⟩ := h3 i k v hv; ⟨e, a, b, c.mono hle⟩, by rw [hb]; exact h4⟩

theorem upd_self (m : Mem) (id : Nat) (o : AObj) : upd m id o id = some o := by simp [upd]
theorem upd_ne (m : Mem) {id j : Nat} (o : AObj) (h : j ≠ id) : upd m id o j = m j := by simp [upd, h]
theorem Corr.at_blk (α : Corr) (id b o r : Nat) : (α.at id b o r).blk id = b := by simp [Corr.at]
theorem Corr.at_off (α : Corr) (id b o r : Nat) : (α.at id b o r).off id = o := by simp [Corr.at]
theorem Corr.at_room (α : Corr) (id b o r : Nat) : (α.at id b o r).room id = r := by simp [Corr.at]
theorem Corr.at_blk_ne (α : Corr) {id j : Nat} (b o r : Nat) (h : j ≠ id) : (α.at id b o r).blk j = α.blk j := by simp [Corr.at, h]
theorem Corr.at_off_ne (α : Corr) {id j : Nat} (b o r : Nat) (h : j ≠ id) : (α.at id b o r).off j = α.off j := by simp [Corr.at, h]
theorem Corr.at_room_ne (α : Corr) {id j : Nat} (b o r : Nat) (h : j ≠ id) : (α.at id b o r).room j = α.room j := by simp [Corr.at, h]

theorem Le.fresh {α : Corr} {m : Mem} {id : Nat} (hf : m id = none) (o : AObj) (b p r : Nat) : Le α m (α.at id b p r) (upd m id o) := fun j q hq => by
  have hj : j ≠ id := fun e => by rw [e, hf] at hq; simp at hq
  refine ⟨q, by rw [upd_ne _ _ hj]; exact hq, ?_⟩
  cases q <;> simp [stepOk, Corr.at_blk_ne _ _ _ _ hj, Corr.at_off_ne _ _ _ _ hj, Corr.at_room_ne _ _ _ _ hj]

/-- A new object in a new block. -/
theorem HRel.fresh {α : Corr} {m : Mem} {B : Nat} {w : World} (h : HRel α m B w) {id : Nat} (hf : m id = none) (o : AObj) (b : Obj) (r : Nat)
    (ho : ∀ α' m', α'.blk id = w.heap.size → α'.off id = 0 → α'.room id = r → Le α m α' m' → ORel α' m' B { w with heap := w.heap.push b } id o) :
    HRel (α.at id w.heap.size 0 r) (upd m id o) B { w with heap := w.heap.push b } := by
  have hle := Le.fresh (α := α) hf o w.heap.size 0 r
  refine ⟨fun j q hq => ?_, fun i j a c ha hc hne hr => ?_, by simp; exact Nat.le_succ_of_le h.low⟩
  · by_cases hj : j = id
    · subst hj
      rw [upd_self] at hq; simp at hq; subst hq
      exact ho _ _ (Corr.at_blk ..) (Corr.at_off ..) (Corr.at_room ..) hle
    · rw [upd_ne _ _ hj] at hq
      have hO := h.obj j q hq
      refine hO.keep hle (Corr.at_blk_ne _ _ _ _ hj) (Corr.at_off_ne _ _ _ _ hj) (Corr.at_room_ne _ _ _ _ hj) ?_
      have := hO.lt
      simp only [Array.getElem?_push]
      rw [if_neg (by omega)]
  · by_cases hi : i = id
    · subst hi
      have hj : j ≠ i := fun e => hne e.symm
      rw [upd_ne _ _ hj] at hc
      rw [Corr.at_blk, Corr.at_blk_ne _ _ _ _ hj]
      have := (h.obj j c hc).lt; omega
    · rw [upd_ne _ _ hi] at ha
      rw [Corr.at_blk_ne _ _ _ _ hi]
      by_cases hj : j = id
      · subst hj; rw [Corr.at_blk]; have := (h.obj i a ha).lt; omega
      · rw [upd_ne _ _ hj] at hc; rw [Corr.at_blk_ne _ _ _ _ hj]; exact h.sep i j a c ha hc hne hr

/-- The world with another block, all else as it was. -/
structure Turned (w w' : World) (b : Nat) (o : Obj) : Prop where
  here : w'.heap[b]? = some o
  other : ∀ k, k ≠ b → w'.heap[k]? = w.heap[k]?
  size : w'.heap.size = w.heap.size
  os : w'.os = w.os
  tape : w'.tape = w.tape
  output : w'.output = w.output
theorem Turned.below {w w' : World} {b B : Nat} {o : Obj} (h : Turned w w' b o) (hb : B ≤ b) : Below B w w' :=
  ⟨h.os, h.tape, h.output, by rw [h.size]; exact Nat.le_refl _, fun k hk => h.other k (by omega)⟩

/-- An object is written over in its own block. -/
theorem HRel.turned {α : Corr} {m : Mem} {B : Nat} {w w' : World} (h : HRel α m B w) {id : Nat} {o o' : AObj} (hm : m id = some o) (hro : o.ro = false) (hro' : o'.ro = false)
    {b : Obj} (ht : Turned w w' (α.blk id) b) (p r : Nat)
    (hs : stepOk α (α.at id (α.blk id) p r) id o o')
    (ho : ∀ m', Le α m (α.at id (α.blk id) p r) m' → ORel (α.at id (α.blk id) p r) m' B w' id o') :
    HRel (α.at id (α.blk id) p r) (upd m id o') B w' ∧ Le α m (α.at id (α.blk id) p r) (upd m id o') := by
  have hle : Le α m (α.at id (α.blk id) p r) (upd m id o') := fun j q hq => by
    by_cases hj : j = id
    · subst hj; rw [hm] at hq; simp at hq; subst hq; exact ⟨o', upd_self .., hs⟩
    · refine ⟨q, by rw [upd_ne _ _ hj]; exact hq, ?_⟩
      cases q <;> simp [stepOk, Corr.at_blk_ne _ _ _ _ hj, Corr.at_off_ne _ _ _ _ hj, Corr.at_room_ne _ _ _ _ hj]
  have hblk : ∀ j, (α.at id (α.blk id) p r).blk j = α.blk j := fun j => by
    by_cases hj : j = id
    · subst hj; rw [Corr.at_blk]
    · rw [Corr.at_blk_ne _ _ _ _ hj]
  refine ⟨⟨fun j q hq => ?_, fun i j a c ha hc hne hr => ?_, by rw [ht.size]; exact h.low⟩, hle⟩
  · by_cases hj : j = id
    · subst hj; rw [upd_self] at hq; simp at hq; subst hq; exact ho _ hle
    · rw [upd_ne _ _ hj] at hq
      refine (h.obj j q hq).keep hle (Corr.at_blk_ne _ _ _ _ hj) (Corr.at_off_ne _ _ _ _ hj) (Corr.at_room_ne _ _ _ _ hj) (ht.other _ ?_)
      exact fun e => h.sep id j o q hm hq (fun e' => hj e'.symm) hro e.symm
  · rw [hblk, hblk]
    have get : ∀ k x, upd m id o' k = some x → ∃ y, m k = some y ∧ y.ro = x.ro := fun k x hx => by
      by_cases hk : k = id
      · subst hk; rw [upd_self] at hx; simp at hx; subst hx; exact ⟨o, hm, hro.trans hro'.symm⟩
      · rw [upd_ne _ _ hk] at hx; exact ⟨x, hx, rfl⟩
    obtain ⟨a', ha', e⟩ := get i a ha
    obtain ⟨c', hc', _⟩ := get j c hc
    exact h.sep i j a' c' ha' hc' hne (e.trans hr)

end Go.Am
