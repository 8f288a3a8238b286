/- Slices: made, read, grown, cut. -/
import Derived.Laws.BytesString
import Derived.Test.YtgpeieohdelniaaGreatDoorAmOps1
import Derived.Laws.MakeOwn
import Derived.Laws.Slices
namespace Go.Am
open Go Go.RowKit

section
variable {P : Program} {α : Corr} {h h' : St} {B : Nat} {w : World}

/-- A slice value that is as its array is now. -/
theorem slice_at {a : Addr} {len g : Nat} {cv : Value} (hv : VRel α h.m (.slice (some a) len g) cv) :
    ∃ ca cap, cv = .slice (some ca) len cap ∧ len ≤ cap ∧ a.spot = none ∧ ∃ ro e g' c, h.m a.block = some (.arr ro e g' c) ∧ (g' = g → Located α a.block e c.length a.off len ca cap) := by
  cases hv with
  | slice id off len gs ro e g c ca cap hm hg hc hl => exact ⟨ca, cap, rfl, hc, rfl, ro, e, g, c, hm, fun e => hl e.symm⟩

theorem crel_range {m : Mem} {c : List Value} {cs : Array Value} {o : Nat} (hc : CRel α m c cs o) (i n : Nat) (hn : i + n ≤ c.length) :
    LRel α m ((c.drop i).take n) ((cs.toList.drop (o + i)).take n) := by
  have hsz : ∀ j, j < c.length → o + j < cs.size := fun j hj => by
    obtain ⟨v', hv', _⟩ := hc j c[j] (by simp [hj])
    exact (Array.getElem?_eq_some_iff.1 hv').1
  refine ⟨?_, fun j u hu => ?_⟩
  · simp only [List.length_take, List.length_drop, Array.length_toList]
    by_cases h0 : n = 0
    · subst h0; simp
    · have := hsz (i + n - 1) (by omega); omega
  · rw [List.getElem?_take] at hu ⊢
    split at hu
    · rename_i hj
      simp only [hj, if_true]
      rw [List.getElem?_drop] at hu ⊢
      obtain ⟨v', hv', r⟩ := hc _ _ hu
      refine ⟨v', ?_, r⟩
      rw [Array.getElem?_toList, ← hv']; congr 1; omega
    · simp at hu

theorem range_cells {b o n : Nat} {cs : Array Value} {T : TypeId} {fr : Nat × Nat} (hb : w.heap[b]? = some (.cells cs T fr)) :
    ∀ (j : Nat) (u : Value), ((cs.toList.drop o).take n)[j]? = some u → w.cell? ((⟨b, o, none⟩ : Addr).add j) = some u := fun j u hj => by
  rw [List.getElem?_take] at hj
  split at hj
  · rw [List.getElem?_drop, Array.getElem?_toList] at hj
    rw [addr_add, cell_of hb]; exact hj
  · simp at hj

/-- What a slice's first cells are. -/
theorem sliceRow_sound {size n : Nat} {v cv : Value} {c : List Value} (k : sliceRow h size n v = some c) (H : HRel α h.m B w) (hv : VRel α h.m v cv) :
    ∃ cs : List Value, LRel α h.m c cs ∧ c.length = n * size ∧ (∀ w' : World, w'.heap = w.heap → (Builtin.firstCells size n cv).run P w' = .ok cs.toArray w') := by
  cases v with
  | slice a len g =>
    cases a with
    | none =>
      simp only [sliceRow] at k
      split at k
      · rename_i h0; subst h0; simp at k; subst k
        cases hv
        exact ⟨[], LRel.nil _ _, by simp, fun w' _ => by simp [Builtin.firstCells]⟩
      · simp at k
    | some a =>
      simp only [sliceRow] at k
      obtain ⟨ca, cap, rfl, hcap, hsp, ro, e, g', c', hm, hl⟩ := slice_at hv
      split at k
      · rename_i hn
        split at k
        · rename_i h0; subst h0; simp at k; subst k
          exact ⟨[], LRel.nil _ _, by simp, fun w' _ => by simp [Builtin.firstCells, loadCells, loadCellsFrom]⟩
        · rename_i h0
          split at k
          · rename_i ro' e' g'' c'' hg
            have hm' := St.get_m hg
            rw [hm] at hm'; simp at hm'
            obtain ⟨rfl, rfl, rfl, rfl⟩ := hm'
            split at k
            · rename_i hc
              obtain ⟨rfl, rfl, hc3, _⟩ := hc
              simp at k; subst k
              obtain ⟨h1, h2, h3⟩ := hl rfl
              have hca := h2 (by omega)
              subst hca
              obtain ⟨cs, T, fr, hb, hcr, _⟩ := H.obj _ _ hm
              have hR := crel_range hcr _ _ hc3
              have hlen : ((c'.drop a.off).take (n * e)).length = n * e := by simp; omega
              refine ⟨_, hR, hlen, fun w' hw => ?_⟩
              rw [hR.1] at hlen
              have hb' : w'.heap[α.blk a.block]? = some (.cells cs T fr) := by rw [hw]; exact hb
              exact run_firstCells_some w' e n _ len cap _ hlen (range_cells hb')
            · simp at k
          · simp at k
      · simp at k
  | _ => simp [sliceRow] at k

theorem u8s_rel {m : Mem} : ∀ (c cs : List Value) (ns : List Int), u8s c = some ns → LRel α m c cs → cs = ns.map (Value.int .u8) := by
  intro c
  induction c with
  | nil => intro cs ns k hR; simp [u8s] at k; subst k; have := hR.1; simp at this; exact List.eq_nil_of_length_eq_zero this.symm
  | cons v c ih =>
    intro cs ns k hR
    cases cs with
    | nil => have := hR.1; simp at this
    | cons d cs =>
      unfold u8s at k
      split at k
      · rename_i he; simp at he
      · rename_i n r he
        simp only [List.cons.injEq] at he
        obtain ⟨rfl, rfl⟩ := he
        obtain ⟨l, hl, k⟩ := Option.bind_eq_some_iff.1 k
        simp only [Option.some.injEq] at k
        subst k
        obtain ⟨d', h1, h2⟩ := hR.2 0 _ rfl
        simp at h1; subst h1
        have hd : d = .int .u8 n := by cases h2; rfl
        have hR' : LRel α m c cs := ⟨by have := hR.1; simpa using this, fun i v hv => by have := hR.2 (i + 1) v (by simpa using hv); simpa using this⟩
        rw [hd, ih cs l hl hR']; rfl
      · simp at k
theorem sbytes_sound {s d : TypeId} {v cv : Value} {r : ByteArray} (hb : isBytes P s d = true) (k : sbytes h v = some r) (H : HRel α h.m B w) (hv : VRel α h.m v cv) : PureOut P α h.m w (convert s d cv) (.string r) := by
  unfold isBytes at hb
  split at hb
  · rename_i e hs hd
    split at hb
    · rename_i hu
      cases v with
      | slice a len g =>
        simp only [sbytes] at k
        obtain ⟨c, hc, k⟩ := Option.bind_eq_some_iff.1 k
        obtain ⟨ns, hn, k⟩ := Option.bind_eq_some_iff.1 k
        simp only [Option.some.injEq] at k
        subst k
        obtain ⟨cs, hR, hlen, hrun⟩ := sliceRow_sound hc H hv
        have hcs := u8s_rel _ _ _ hn hR
        have hrun := hrun w rfl
        refine ⟨.string (pushN ns), ?_, .string _⟩
        have hsl : ∃ ca cap, cv = .slice ca len cap := by cases hv <;> exact ⟨_, _, rfl⟩
        obtain ⟨ca, cap, rfl⟩ := hsl
        simp only [convert, Sem.run_bind, run_und hs, run_und hd, run_und hu, Result.andThen_ok]
        cases ca with
        | none =>
          simp only [Builtin.firstCells, Sem.run_pure] at hrun
          have h0 : cs = [] := by have := congrArg (fun r => match r with | Result.ok a _ => a.toList | _ => []) hrun; simpa using this.symm
          rw [h0] at hcs
          have : ns = [] := by cases ns with | nil => rfl | cons a l => simp at hcs
          subst this
          simp [Conv.bytesToString, pushN]
        | some a =>
          simp only [Builtin.firstCells, Nat.mul_one] at hrun
          rw [hcs] at hrun
          exact run_bytesToString w a len cap ns hrun
      | _ => simp [sbytes] at k
    · simp at hb
  · simp at hb

theorem slen_sound {v cv : Value} {n : Nat} (k : slen v = some n) (hv : VRel α h.m v cv) (w : World) : (Builtin.lenOf cv).run P w = .ok n w := by
  cases hv <;> simp [slen] at k <;> subst k <;> simp [Builtin.lenOf]

theorem rowOf_sound {size n N : Nat} {v cv : Value} {c : List Value} (k : rowOf h size n v = some c) (H : HRel α h.m B w) (hv : VRel α h.m v cv) (hn : slen v = some N) (hle : n ≤ N) :
    ∃ cs : List Value, LRel α h.m c cs ∧ c.length = n * size ∧ (∀ w' : World, w'.heap = w.heap → (Builtin.firstCells size n cv).run P w' = .ok cs.toArray w') := by
  cases v with
  | string s =>
    cases hv
    simp [slen] at hn; subst hn
    simp only [rowOf] at k
    split at k
    · rename_i hs; subst hs
      simp only [Option.some.injEq] at k; subst k
      refine ⟨_, LRel.flat (fun v hv => by obtain ⟨b, _, rfl⟩ := List.mem_map.1 hv; rfl), ?_, fun w' _ => ?_⟩
      · have : s.data.size = s.size := rfl
        simp; omega
      · simp only [Builtin.firstCells, Sem.run_pure]; congr 1; apply Array.ext'; simp
    · simp at k
  | _ => all_goals exact sliceRow_sound (by simpa [rowOf] using k) H hv

/-! made slices -/
theorem new_arr_sound {e : Nat} {c : List Value} {cs : Array Value} (T : TypeId) (room len cap : Nat) (hw : World) (hwd : hw.heap = w.heap ∧ hw.os = w.os ∧ hw.tape = w.tape ∧ hw.output = w.output) (H : HRel α h.m B w) (hf : h.m h.next = none)
    (hc : LRel α h.m c (cs.toList.take c.length)) (hcl : c.length ≤ room) (hr : room ≤ cs.size) (hlen : len * e ≤ c.length) (hcap : cap * e ≤ room) (hle : len ≤ cap) :
    HRel (α.at h.next w.heap.size 0 room) (h.new (.arr false e 0 c)).m B { hw with heap := hw.heap.push (.cells cs T) } ∧
    Le α h.m (α.at h.next w.heap.size 0 room) (h.new (.arr false e 0 c)).m ∧ Below B w { hw with heap := hw.heap.push (.cells cs T) } ∧
    VRel (α.at h.next w.heap.size 0 room) (h.new (.arr false e 0 c)).m (.slice (some ⟨h.next, 0, none⟩) len 0) (.slice (some ⟨w.heap.size, 0, none⟩) len cap) := by
  obtain ⟨e1, e2, e3, e4⟩ := hwd
  have hworld : HRel (α.at h.next w.heap.size 0 room) (h.new (.arr false e 0 c)).m B { w with heap := w.heap.push (.cells cs T) } := by
    refine H.fresh hf _ _ _ fun α' m' h1 h2 h3 hle => ?_
    refine ⟨cs, T, (0, 0), by rw [h1]; simp, fun i u hu => ?_, fun _ => ⟨rfl, by rw [h1]; exact H.low, by rw [h3]; exact hcl, by rw [h2, h3]; omega⟩⟩
    obtain ⟨x, hx, r⟩ := hc.2 i u hu
    rw [List.getElem?_take] at hx
    split at hx
    · exact ⟨x, by rw [h2, Nat.zero_add, ← Array.getElem?_toList]; exact hx, r.mono hle⟩
    · simp at hx
  refine ⟨⟨fun id o ho => ?_, hworld.sep, by simp; rw [e1]; exact Nat.le_succ_of_le H.low⟩, Le.fresh hf _ _ _ _, ⟨e2, e3, e4, by simp [e1], fun k hk => ?_⟩, ?_⟩
  · refine (hworld.obj id o ho).keep (Le.refl _ _) rfl rfl rfl ?_
    simp [e1]
  · have := H.low
    simp only [e1, Array.getElem?_push]; rw [if_neg (by omega)]
  · have := VRel.slice (α := α.at h.next w.heap.size 0 room) (m := (h.new (.arr false e 0 c)).m) h.next 0 len 0 false e 0 c ⟨w.heap.size, 0, none⟩ cap (upd_self _ _ _) (Nat.le_refl _) hle
      (fun _ => ⟨by omega, fun _ => by rw [Corr.at_blk, Corr.at_off], by rw [Corr.at_room]; omega⟩)
    exact this

theorem zeros_get {z : Value} {n i : Nat} (hz : 0 < z.cells.size) : (zeros z n)[i]? = if i < n * z.cells.size then z.cells[i % z.cells.size]? else none := by
  unfold zeros
  induction n generalizing i with
  | zero => simp
  | succ n ih =>
    simp only [List.replicate_succ, List.flatten_cons, List.getElem?_append, Array.length_toList]
    by_cases h1 : i < z.cells.size
    · rw [if_pos h1, if_pos (by rw [Nat.succ_mul]; omega), Nat.mod_eq_of_lt h1]; simp
    · rw [if_neg h1, ih]
      have e : (i - z.cells.size) % z.cells.size = i % z.cells.size := by
        rw [Nat.mod_eq_sub_mod (by omega : i ≥ z.cells.size)]
      rw [e]
      by_cases h2 : i - z.cells.size < n * z.cells.size
      · rw [if_pos h2, if_pos (by rw [Nat.succ_mul]; omega)]
      · rw [if_neg h2, if_neg (by rw [Nat.succ_mul]; omega)]
theorem zeros_length {z : Value} {n : Nat} : (zeros z n).length = n * z.cells.size := by
  unfold zeros
  induction n with
  | zero => simp
  | succ n ih => simp [List.replicate_succ, Nat.succ_mul, ih, Nat.add_comm]
theorem zeros_flat {z : Value} {n : Nat} (hz : flat z = true) : ∀ v ∈ zeros z n, flatN 4 v = true := fun v hv => by
  unfold zeros at hv
  rw [List.mem_flatten] at hv
  obtain ⟨l, hl, hv⟩ := hv
  rw [List.mem_replicate] at hl
  rw [hl.2] at hv
  exact zero_cells_flat hz v hv
theorem madeCells_take {z : Value} {n k : Nat} (hz : 0 < z.cells.size) (hk : k ≤ n) : (madeCells z.cells (n * z.cells.size)).toList.take (k * z.cells.size) = zeros z k := by
  apply List.ext_getElem?
  intro i
  rw [List.getElem?_take, zeros_get hz]
  by_cases hi : i < k * z.cells.size
  · have hkn : k * z.cells.size ≤ n * z.cells.size := Nat.mul_le_mul_right _ hk
    rw [if_pos hi, if_pos hi]
    have hm := Nat.mod_lt i hz
    simp [madeCells, show i < n * z.cells.size by omega, hm]
  · rw [if_neg hi, if_neg hi]

theorem amakeSlice_sound {t : TypeId} {l c cl cc v : Value} (k : amakeSlice P h t l c = some (v, h')) (H : HRel α h.m B w) (hf : h.m h.next = none) (hl : VRel α h.m l cl) (hc : VRel α h.m c cc) :
    ValOut P α h B w (Instr.makeSlice t cl cc) v h' := by
  unfold amakeSlice at k
  cases he : telem P t with
  | none => simp [he] at k
  | some e =>
  cases hn : tsize P e with
  | none => simp [he, hn] at k
  | some n =>
  cases hz : tzero P e with
  | none => simp [he, hn, hz] at k
  | some z =>
  cases hb : tbytes P e with
  | none => simp [he, hn, hz, hb] at k
  | some b =>
    simp only [he, hn, hz, hb, Option.bind_some] at k
    split at k
    · rename_i hc0
      obtain ⟨c0, c1⟩ := hc0
      split at k
      · rename_i kl l kc c
        cases hl; cases hc
        unfold smake at k
        split at k
        · rename_i hc
          obtain ⟨c2, c3, c4, c5⟩ := hc
          simp only [Option.some.injEq, Prod.mk.injEq] at k
          obtain ⟨rfl, rfl⟩ := k
          have hzf := (run_tzero (w := w) hz).2
          unfold tzero at hz
          unfold tsize at hn; unfold tbytes at hb
          cases hi : P.info? e with
          | none => simp [hi] at hz
          | some i =>
            simp only [hi, Option.map_some, Option.some.injEq] at hn hb
            have hiz : i.zero = some z := by
              simp only [hi] at hz
              split at hz
              · rename_i v hv; split at hz
                · simp at hz; rw [hv, hz]
                · simp at hz
              · simp at hz
            subst hn hb
            have hrun := run_make (P := P) w t e i z (telem_und he) hi hiz kl kc l c c2 c3 (by omega) (by omega)
            have hpos : 0 < z.cells.size := by omega
            have hzl := zeros_length (z := z) (n := l.toNat)
            have ht := madeCells_take (z := z) (n := c.toNat) (k := l.toNat) hpos (by omega)
            rw [← c1] at hrun ⊢
            have hlc : l.toNat * z.cells.size ≤ c.toNat * z.cells.size := Nat.mul_le_mul_right _ (by omega)
            have := new_arr_sound (e := z.cells.size) (c := zeros z l.toNat) (cs := madeCells z.cells (c.toNat * z.cells.size)) e (c.toNat * z.cells.size) l.toNat c.toNat w ⟨rfl, rfl, rfl, rfl⟩ H hf
              (by rw [hzl, ht]; exact LRel.flat (zeros_flat hzf)) (by rw [hzl]; exact hlc) (by rw [size_madeCells]; exact Nat.le_refl _) (by rw [hzl]; exact Nat.le_refl _) (Nat.le_refl _) (by omega)
            exact ⟨_, _, _, hrun, this.2.2.2, this.1, this.2.1, this.2.2.1⟩
        · simp at k
      · simp at k
    · simp at k

/-! parts filled in -/
theorem fill_rel {m : Mem} {place : Nat → Option (Nat × Nat)} : ∀ (parts cparts : List (Nat × Value)) (cs ccs r : Array Value),
    parts.length = cparts.length → (∀ (i : Nat) (p q : Nat × Value), parts[i]? = some p → cparts[i]? = some q → p.1 = q.1 ∧ VRel α m p.2 q.2) →
    LRel α m cs.toList ccs.toList → Instr.fill place cs parts = some r → ∃ r', Instr.fill place ccs cparts = some r' ∧ LRel α m r.toList r'.toList := by
  intro parts
  induction parts with
  | nil => intro cparts cs ccs r hl _ hc k; cases cparts with
    | nil => simp [Instr.fill] at k ⊢; subst k; exact hc
    | cons q cparts => simp at hl
  | cons p parts ih =>
    intro cparts cs ccs r hl hp hc k
    cases cparts with
    | nil => simp at hl
    | cons q cparts =>
      obtain ⟨i, v⟩ := p
      obtain ⟨j, u⟩ := q
      obtain ⟨rfl, hv⟩ := hp 0 _ _ rfl rfl
      simp only at hv
      simp only [Instr.fill] at k ⊢
      cases hpl : place i with
      | none => simp [hpl] at k
      | some os =>
        obtain ⟨off, size⟩ := os
        simp only [hpl] at k ⊢
        have hsz := hv.cells_size
        have hcs : cs.size = ccs.size := by simpa using hc.1
        rw [← hsz, ← hcs]
        split at k
        · simp at k
        · rename_i hno
          rw [if_neg hno]
          refine ih cparts _ _ r (by simpa using hl) (fun n p q hp' hq' => hp (n + 1) p q (by simpa using hp') (by simpa using hq')) ?_ k
          -- the fold
          have fold : ∀ (xs ys : List Value) (n : Nat) (a b : Array Value), LRel α m xs ys → LRel α m a.toList b.toList →
              LRel α m ((xs.zipIdx n).foldl (fun cs (x : Value × Nat) => cs.setIfInBounds (off + x.2) x.1) a).toList ((ys.zipIdx n).foldl (fun cs (x : Value × Nat) => cs.setIfInBounds (off + x.2) x.1) b).toList := by
            intro xs
            induction xs with
            | nil => intro ys n a b hxy hab; cases ys with
              | nil => simpa using hab
              | cons y ys => have := hxy.1; simp at this
            | cons x xs ihx =>
              intro ys n a b hxy hab
              cases ys with
              | nil => have := hxy.1; simp at this
              | cons y ys =>
                simp only [List.zipIdx_cons, List.foldl_cons]
                refine ihx ys (n + 1) _ _ ⟨by have := hxy.1; simpa using this, fun i v hv => by simpa using hxy.2 (i + 1) v (by simpa using hv)⟩ ?_
                have hx : VRel α m x y := by obtain ⟨y', hy', r⟩ := hxy.2 0 x rfl; simp at hy'; subst hy'; exact r
                simpa using hab.set hx (off + n)
          have := fold v.cells.toList u.cells.toList 0 cs ccs hv.cells hc
          rw [← Array.foldl_toList, ← Array.foldl_toList]
          simpa using this

theorem abuildSlice_sound {t : TypeId} {len : Nat} {parts cparts : List (Nat × Value)} {v : Value} (k : abuildSlice P h t len parts = some (v, h')) (H : HRel α h.m B w) (hf : h.m h.next = none)
    (hl : parts.length = cparts.length) (hp : ∀ (i : Nat) (p q : Nat × Value), parts[i]? = some p → cparts[i]? = some q → p.1 = q.1 ∧ VRel α h.m p.2 q.2) :
    ValOut P α h B w (Instr.buildSlice t len cparts.toArray) v h' := by
  unfold abuildSlice at k
  cases he : telem P t with
  | none => simp [he] at k
  | some e =>
  cases hn : tsize P e with
  | none => simp [he, hn] at k
  | some n =>
  cases hz : tzero P e with
  | none => simp [he, hn, hz] at k
  | some z =>
    simp only [he, hn, hz, Option.bind_some] at k
    split at k
    · rename_i hc
      obtain ⟨c0, c1, c2⟩ := hc
      have hzr := run_tzero (w := w) hz
      cases hfi : Instr.fill (fun i => some (i * n, n)) (zeros z len).toArray parts with
      | none => simp [hfi] at k
      | some r =>
        simp only [hfi, Option.bind_some, Option.some.injEq, Prod.mk.injEq] at k
        obtain ⟨rfl, rfl⟩ := k
        have hpos : 0 < z.cells.size := by omega
        have hmade : (madeCells z.cells (len * z.cells.size)) = (zeros z len).toArray := by
          apply Array.ext'
          have := madeCells_take (z := z) (n := len) (k := len) hpos (Nat.le_refl _)
          rw [← this, List.take_of_length_le (by simp [size_madeCells])]
        obtain ⟨r', hr', hR⟩ := fill_rel (α := α) (m := h.m) parts cparts _ _ r hl hp (LRel.flat (by simpa using zeros_flat hzr.2)) hfi
        have hrun : (Instr.buildSlice t len cparts.toArray).run P w = .ok (.slice (some ⟨w.heap.size, 0, none⟩) len len) { w with heap := w.heap.push (.cells r' e) } := by
          have hmade' : (Array.range (len * z.cells.size)).map (z.cells[· % z.cells.size]!) = (zeros z len).toArray := hmade
          by_cases h0 : len * n = 0
          · have hlen0 : len = 0 := by rcases Nat.mul_eq_zero.1 h0 with h | h; exact h; exact absurd h c0
            subst hlen0
            simp only [zeros, List.replicate_zero, List.flatten_nil] at hr'
            simp [Instr.buildSlice, run_und (telem_und he), run_tsize hn, newRow, Array.range_zero', hr']
          · have c2' : ¬ (16777216 < len * n) := by omega
            subst c1
            simp [Instr.buildSlice, run_und (telem_und he), run_tsize hn, hzr.1, h0, c2', newRow, hmade', hr']
        have hrl : r.toList.length = len * n := by
          have sz : ∀ (parts : List (Nat × Value)) (cs r : Array Value), Instr.fill (fun i => some (i * n, n)) cs parts = some r → r.size = cs.size := by
            intro parts
            induction parts with
            | nil => intro cs r k; simp [Instr.fill] at k; rw [k]
            | cons p parts ih =>
              intro cs r k
              obtain ⟨i, v⟩ := p
              simp only [Instr.fill] at k
              split at k
              · simp at k
              · rw [ih _ _ k]
                have : ∀ (l : List (Value × Nat)) (a : Array Value), (l.foldl (fun cs (x : Value × Nat) => cs.setIfInBounds (i * n + x.2) x.1) a).size = a.size := by
                  intro l; induction l with
                  | nil => intro a; rfl
                  | cons x l ihl => intro a; simp [ihl]
                rw [← Array.foldl_toList]; exact this _ _
          rw [Array.length_toList, sz _ _ _ hfi]
          simp [zeros_length, c1]
        have := new_arr_sound (e := n) (c := r.toList) (cs := r') e (len * n) len len w ⟨rfl, rfl, rfl, rfl⟩ H hf
          (by rw [List.take_of_length_le (by rw [hR.1]; exact Nat.le_refl _)]; exact hR) (by omega) (by have := hR.1; simp only [Array.length_toList] at this hrl; omega) (by omega) (Nat.le_refl _) (Nat.le_refl _)
        exact ⟨_, _, _, hrun, this.2.2.2, this.1, this.2.1, this.2.2.1⟩
    · simp at k

end
end Go.Am
