/- How the evaluator's words are reckoned with. -/
import Derived.Test.YtgpeieohdelniaaGreatDoorAmSeg
import Derived.Laws.BitsLemmas
namespace Go.Am
open Go

theorem obind_some {α β : Type} (x : α) (f : α → Option β) : obind (some x) f = f x := rfl
theorem obind_none {α β : Type} (f : α → Option β) : obind none f = none := rfl
theorem bcond_true {α : Type} (x y : α) : bcond true x y = x := rfl
theorem bcond_false {α : Type} (x y : α) : bcond false x y = y := rfl
theorem bcond_pos {α : Type} {b : Bool} (h : b = true) (x y : α) : bcond b x y = x := by rw [h]; rfl
theorem bcond_neg {α : Type} {b : Bool} (h : b = false) (x y : α) : bcond b x y = y := by rw [h]; rfl
theorem vInt_int (k : IntKind) (n : Int) : vInt k (.int k n) = some n := by simp [vInt]
theorem vBool_bool (b : Bool) : vBool (.bool b) = some b := rfl
theorem vStr_str (s : ByteArray) : vStr (.string s) = some s := rfl
theorem vPtr_ptr (a : Option Addr) : vPtr (.pointer a) = some a := rfl
theorem vSl_slice (a : Option Addr) (l g : Nat) : vSl (.slice a l g) = some (a, l, g) := rfl
theorem vMap_map (r : Option Nat) : vMap (.map r) = some r := rfl
theorem vAgg_agg (n : Nat) (cs : Array Value) (h : cs.size = n) : vAgg n (.agg cs) = some cs.toList := by simp [vAgg, h]
theorem vTup_tup (n : Nat) (cs : Array Value) (h : cs.size = n) : vTup n (.tuple cs) = some cs.toList := by simp [vTup, h]
theorem ieq_dec (a b : Int) : ieq a b = decide (a = b) := by simp [ieq, Bool.beq_eq_decide_eq]
theorem ilt_dec (a b : Int) : ilt a b = decide (a < b) := rfl
theorem ile_dec (a b : Int) : ile a b = decide (a ≤ b) := rfl
theorem bnot_not (a : Bool) : bnot a = !a := rfl
theorem beqb_eq (a b : Bool) : beqb a b = (a == b) := rfl
theorem band_and (a b : Bool) : band a b = (a && b) := rfl
theorem seq_dec (a b : ByteArray) : seq a b = decide (a = b) := by
  unfold seq
  by_cases h : a = b
  · subst h; simp
  · simp only [h, decide_false, beq_eq_false_iff_ne, ne_eq]
    intro e
    apply h
    have h1 : ∀ x : ByteArray, x.toList = x.data.toList := fun x => by
      exact ByteArray.toList_eq x
    rw [h1, h1] at e
    cases a; cases b; simp at e; rw [e]

/-! numbers in range -/
def in64 (n : Int) : Prop := -9223372036854775808 ≤ n ∧ n ≤ 9223372036854775807
theorem wrap64 {n : Int} (h : in64 n) : IntKind.i64.wrap n = n := by
  rw [IntKind.wrap_i64]; unfold in64 at h; omega
theorem wadd_in {a b : Int} (h : in64 (a + b)) : wadd .i64 a b = a + b := wrap64 h
theorem wsub_in {a b : Int} (h : in64 (a - b)) : wsub .i64 a b = a - b := wrap64 h
theorem wmul_in {a b : Int} (h : in64 (a * b)) : wmul .i64 a b = a * b := wrap64 h
theorem wconv8 {a : Int} (h0 : 0 ≤ a) (h1 : a < 256) : wconv .u8 a = a := by
  unfold wconv; rw [IntKind.wrap_u8]; omega
theorem wconv64 {a : Int} (h : in64 a) : wconv .i64 a = a := wrap64 h
theorem wquo_in {a b : Int} (hb : b ≠ 0) (h : in64 (a.tdiv b)) : wquo .i64 a b = some (a.tdiv b) := by simp [wquo, hb, wrap64 h]
theorem wrem_in {a b : Int} (hb : b ≠ 0) : wrem a b = some (a.tmod b) := by simp [wrem, hb]

/-! strings -/
theorem scat_ok {a b : ByteArray} (h : a.size + b.size ≤ 2 ^ 62) : scat a b = some (a ++ b) := by simp [scat, h]
/-- A string of bytes. -/
def bs (l : List UInt8) : ByteArray := ⟨l.toArray⟩
theorem bs_size (l : List UInt8) : (bs l).size = l.length := by simp [bs, ByteArray.size]
theorem bs_append (a b : List UInt8) : bs a ++ bs b = bs (a ++ b) := by
  apply ByteArray.ext; simp [bs, ByteArray.data_append]
theorem bs_inj {a b : List UInt8} : bs a = bs b ↔ a = b := by
  constructor
  · intro h; have := congrArg (fun x : ByteArray => x.data.toList) h; simpa [bs] using this
  · rintro rfl; rfl
theorem bs_data (s : ByteArray) : bs s.data.toList = s := by cases s; simp [bs]
theorem scat_bs {a b : List UInt8} (h : a.length + b.length ≤ 2 ^ 62) : scat (bs a) (bs b) = some (bs (a ++ b)) := by
  rw [scat_ok (by rw [bs_size, bs_size]; exact h), bs_append]

/-! the heap grows -/
/-- New objects can be looked at; behind the next one there is nothing. -/
structure Wf (h : St) : Prop where
  vis : ∀ id, h.next ≤ id → h.vis id = true
  fl : h.floor ≤ h.next
  free : ∀ id, h.next ≤ id → h.m id = none
/-- All that was there is there as it was. -/
structure Grown (h h' : St) : Prop where
  next : h.next ≤ h'.next
  m : ∀ id, id < h.next → h'.m id = h.m id
  vis : h'.vis = h.vis
  floor : h'.floor = h.floor
  free : (∀ id, h.next ≤ id → h.m id = none) → ∀ id, h'.next ≤ id → h'.m id = none
theorem Grown.refl (h : St) : Grown h h := ⟨Nat.le_refl _, fun _ _ => rfl, rfl, rfl, fun k => k⟩
theorem Grown.trans {a b c : St} (h : Grown a b) (k : Grown b c) : Grown a c :=
  ⟨Nat.le_trans h.next k.next, fun id hid => (k.m id (Nat.lt_of_lt_of_le hid h.next)).trans (h.m id hid), k.vis.trans h.vis, k.floor.trans h.floor, fun x => k.free (h.free x)⟩
theorem Grown.wf {h h' : St} (g : Grown h h') (w : Wf h) : Wf h' :=
  ⟨fun id hid => by rw [g.vis]; exact w.vis id (Nat.le_trans g.next hid), by rw [g.floor]; exact Nat.le_trans w.fl g.next, g.free w.free⟩
theorem Grown.get {h h' : St} (g : Grown h h') {id : Nat} (hid : id < h.next) : h'.get id = h.get id := by
  unfold St.get; rw [g.vis, g.m id hid]
theorem Grown.new (h : St) (o : AObj) : Grown h (h.new o) :=
  ⟨Nat.le_succ _, fun id hid => by simp only [St.new, upd]; rw [if_neg (by omega)], rfl, rfl, fun k id hid => by
    simp only [St.new, upd] at hid ⊢; rw [if_neg (by omega)]; exact k id (by omega)⟩
theorem get_new {h : St} (w : Wf h) (o : AObj) : (h.new o).get h.next = some o := by
  simp [St.get, St.new, upd, w.vis h.next (Nat.le_refl _)]
/-- An object behind all that was there is written over. -/
theorem Grown.put {h h' : St} (g : Grown h h') {id : Nat} (hid : h.next ≤ id) (hid' : id < h'.next) (o : AObj) : Grown h (h'.put id o) :=
  ⟨g.next, fun j hj => by simp only [St.put, upd]; rw [if_neg (by omega)]; exact g.m j hj, g.vis, g.floor, fun k j hj => by
    simp only [St.put, upd] at hj ⊢; rw [if_neg (by omega)]; exact g.free k j hj⟩
theorem next_new (h : St) (o : AObj) : (h.new o).next = h.next + 1 := rfl
theorem lt_of_get {h : St} (w : Wf h) {id : Nat} {o : AObj} (k : h.get id = some o) : id < h.next := by
  rcases Nat.lt_or_ge id h.next with hl | hl
  · exact hl
  · unfold St.get at k; rw [w.free id hl] at k; split at k <;> simp at k
/-- A call that is run blind. -/
theorem Wf.blind {h : St} (w : Wf h) : Wf h.blind :=
  ⟨fun id hid => by simp only [St.blind] at hid ⊢; rw [w.vis id hid, w.free id hid]; rfl, Nat.le_refl _, w.free⟩
theorem Grown.merge {h h' : St} (g : Grown h.blind h') : Grown h (h.merge h') := by
  refine ⟨g.next, fun id hid => ?_, rfl, rfl, fun k id hid => ?_⟩
  · simp only [St.merge]
    split
    · exact g.m id hid
    · rfl
  · simp only [St.merge]
    split
    · exact g.free k id hid
    · exact k id (Nat.le_trans g.next hid)
theorem blindf_some {callf : FuncId → AFn} {f : FuncId} {args : List Value} {h h' : St} {v : Value} (e : callf f args h.blind = some (v, h')) : blindf callf f args h = some (v, h.merge h') := by
  simp [blindf, obind, e]

/-! rows of new arrays -/
theorem sliceRow_new {h : St} (w : Wf h) (n : Nat) (e : Nat) (c : List Value) (hn : n * e ≤ c.length) (h0 : n ≠ 0) :
    sliceRow (h.new (.arr false e 0 c)) e n (.slice (some ⟨h.next, 0, none⟩) n 0) = some (c.take (n * e)) := by
  simp [sliceRow, get_new w, h0, hn]
theorem sbytes_one {h : St} (w : Wf h) (b : Int) : sbytes (h.new (.arr false 1 0 [.int .u8 b])) (.slice (some ⟨h.next, 0, none⟩) 1 0) = some (bs [UInt8.ofNat b.toNat]) := by
  have := sliceRow_new w 1 1 [.int .u8 b] (by simp) (by simp)
  simp only [Nat.mul_one] at this
  simp [sbytes, this, u8s, obind, pushN, bs]
  rfl
end Go.Am
