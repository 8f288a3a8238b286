/- larchlaw28.ShellTells returns true for every event (P28.3), and its argument reads afterwards as it read before: where the event holds at most 1,048,576 values and letters; the listed package-level variables as the program's text lays them (the card ties them). -/
import Derived.Test.YtgpeieohdelniaaGreatDoorShTell
import Derived.Test.YtgpeieohdelniaaGreatDoorShLaid
namespace Go.Am.Sh
open Go Go.RowKit Go.Am Go.Proofs Go.Proofs.YtgpeieohdelniaaGreatDoor
open Go.ChangeShapes Go.WideShapes Go.ChangeAt
set_option maxRecDepth 100000

theorem cells41 : Tryz.prog.cellsOf 41 = 10 := by kernel_rfl
theorem cells37 : Tryz.prog.cellsOf 37 = 4 := by kernel_rfl
theorem cells39 : Tryz.prog.cellsOf 39 = 4 := by kernel_rfl
theorem cells3 : Tryz.prog.cellsOf 3 = 1 := by kernel_rfl
theorem cells4 : Tryz.prog.cellsOf 4 = 1 := by kernel_rfl
theorem cells23 : Tryz.prog.cellsOf 23 = 1 := by kernel_rfl
theorem cells61 : Tryz.prog.cellsOf 61 = 2 := by kernel_rfl

theorem in64_of {n : Int} (h : (Lit.int .i64 n).wf = true) : in64 n := by
  simpa [Lit.wf, in64, IntKind.min, IntKind.max, IntKind.signed, IntKind.bits] using h

/-- A slice of pairs that came in. -/
theorem open_pairs {H : Type} {enc : TypeId × Value → H} {W : World} {held : Bool} {fuel : Nat} {cs : List Value} {x : DataW H × List MemPlace} (h : DataW.trod enc Tryz.prog W 0 (fun _ => true) held fuel 23 cs = some x) :
    ∃ (a : Option Addr) (len cap b o : Nat) (ps : List (Int × Int)), cs = [.slice a len cap] ∧ ps.length = len ∧ len ≤ cap ∧ (a = none → len = 0 ∧ cap = 0) ∧ (0 < cap → a = some ⟨b, o, none⟩ ∧ ∃ v, W.cell? ⟨b, o, none⟩ = some v) ∧
      (∃ spare, x.1 = .slice (ps.map fun p => .agg [.lit (.int .i64 p.1), .lit (.int .i64 p.2)]) spare ∨ (x.1 = .nil ∧ ps = [])) ∧
      (∀ j p, ps[j]? = some p → W.cell? ⟨b, o + j * 2, none⟩ = some (.int .i64 p.1) ∧ W.cell? ⟨b, o + j * 2 + 1, none⟩ = some (.int .i64 p.2)) ∧ (∀ p ∈ ps, in64 p.1 ∧ in64 p.2) := by
  rcases Deep.open_slice_pairs Tryz.underlying23 Tryz.underlying61 cells61 rfl rfl cells3 cells3 h with ⟨rfl, rfl⟩ | ⟨a, len, cap, m, n, V0, V1, D0, D1, P0, P1, rfl, _, hl, hm, hmm, rfl, each⟩
  · exact ⟨none, 0, 0, 0, 0, [], rfl, rfl, Nat.le_refl _, by simp, by simp, ⟨[], .inr ⟨rfl, rfl⟩⟩, by simp, by simp⟩
  · simp only [if_true] at hmm
    have hlm : len ≤ m := by omega
    have ints : ∀ i, i < len → ∃ k v : Int, V0 i = .int .i64 k ∧ V1 i = .int .i64 v ∧ in64 k ∧ in64 v := fun i hi => by
      obtain ⟨_, _, t0, t1⟩ := each i (by omega)
      obtain ⟨k, e0, _, w0⟩ := DataW.trod_int Tryz.underlying3 t0
      obtain ⟨v, e1, _, w1⟩ := DataW.trod_int Tryz.underlying3 t1
      simp only [List.cons.injEq, and_true] at e0 e1
      exact ⟨k, v, e0, e1, in64_of w0, in64_of w1⟩
    let f : Nat → Int × Int := fun i => ((match V0 i with | .int _ k => k | _ => 0), (match V1 i with | .int _ k => k | _ => 0))
    have hf : ∀ i, i < len → V0 i = .int .i64 (f i).1 ∧ V1 i = .int .i64 (f i).2 ∧ in64 (f i).1 ∧ in64 (f i).2 := fun i hi => by
      obtain ⟨k, v, e0, e1, w0, w1⟩ := ints i hi
      simp only [f, e0, e1]
      exact ⟨trivial, trivial, w0, w1⟩
    obtain ⟨b, o, spot⟩ := a
    have hspot : 0 < cap → spot = none := fun h0 => by simpa [Addr.add] using World.cell?_spot (each 0 (by omega)).1
    refine ⟨some ⟨b, o, spot⟩, len, cap, b, o, (List.range len).map f, rfl, by simp, hl, by simp, fun h0 => ?_, ?_, fun j p hj => ?_, fun p hp => ?_⟩
    · have hs := hspot h0
      subst hs
      exact ⟨rfl, _, by simpa [Addr.add] using (each 0 (by omega)).1⟩
    · refine ⟨(List.range (m - len)).map fun j => .agg [D0 (len + j), D1 (len + j)], .inl ?_⟩
      show DataW.slice _ _ = _
      rw [List.map_map]
      refine congrArg (fun l => DataW.slice l _) ?_
      refine List.map_congr_left fun i hi => ?_
      have hi' := List.mem_range.1 hi
      obtain ⟨_, _, t0, t1⟩ := each i (by omega)
      obtain ⟨k, e0, x0, _⟩ := DataW.trod_int Tryz.underlying3 t0
      obtain ⟨v, e1, x1, _⟩ := DataW.trod_int Tryz.underlying3 t1
      simp only [List.cons.injEq, and_true, Prod.mk.injEq] at e0 e1 x0 x1
      rw [x0.1, x1.1]
      simp only [Function.comp, f, e0, e1]
    · have hjl : j < len := by have := (List.getElem?_eq_some_iff.1 hj).1; simpa using this
      have hs := hspot (by omega)
      subst hs
      have hp : p = f j := by
        rw [List.getElem?_map, List.getElem?_range hjl] at hj
        simpa using hj.symm
      subst hp
      obtain ⟨c0, c1, _, _⟩ := each j (by omega)
      obtain ⟨e0, e1, _, _⟩ := hf j hjl
      rw [e0] at c0; rw [e1] at c1
      rw [Lib.add_plain] at c0 c1
      exact ⟨c0, by rw [Nat.add_assoc]; exact c1⟩
    · obtain ⟨i, hi, rfl⟩ := List.mem_map.1 hp
      obtain ⟨_, _, w0, w1⟩ := hf i (List.mem_range.1 hi)
      exact ⟨w0, w1⟩

theorem pcells_get {ps : List (Int × Int)} : ∀ {i : Nat} {v : Value}, (pcells ps)[i]? = some v → ∃ j p, ps[j]? = some p ∧ ((i = j * 2 ∧ v = .int .i64 p.1) ∨ (i = j * 2 + 1 ∧ v = .int .i64 p.2)) := by
  induction ps with
  | nil => intro i v h; simp [pcells] at h
  | cons q ps ih =>
    intro i v h
    have e : pcells (q :: ps) = .int .i64 q.1 :: .int .i64 q.2 :: pcells ps := rfl
    rw [e] at h
    match i, h with
    | 0, h => simp at h; exact ⟨0, q, rfl, .inl ⟨rfl, h.symm⟩⟩
    | 1, h => simp at h; exact ⟨0, q, rfl, .inr ⟨rfl, h.symm⟩⟩
    | i + 2, h =>
      obtain ⟨j, p, h1, h2⟩ := ih (i := i) (v := v) (by simpa using h)
      refine ⟨j + 1, p, by simpa using h1, ?_⟩
      rcases h2 with ⟨rfl, rfl⟩ | ⟨rfl, rfl⟩
      · exact .inl ⟨by omega, rfl⟩
      · exact .inr ⟨by omega, rfl⟩
theorem cell_block {W : World} {b o : Nat} {v : Value} (h : W.cell? ⟨b, o, none⟩ = some v) : ∃ cs T fr, W.heap[b]? = some (.cells cs T fr) ∧ cs[o]? = some v := by
  unfold World.cell? at h
  simp only at h
  split at h
  · rename_i cs T fr hb; exact ⟨cs, T, fr, hb, h⟩
  · simp at h

theorem tells_calls {W : World} (htab : Tab W) {t k a b c rk rv : Int} {ret ok : Bool} (ht : in64 t) (hk : in64 k) (ha : in64 a) (hb : in64 b) (hc : in64 c) (hrk : in64 rk) (hrv : in64 rv) {sa : Option Addr} {len cap bk o : Nat} {ps : List (Int × Int)}
    (hl : ps.length = len) (hcap : len ≤ cap) (hnil : sa = none → len = 0 ∧ cap = 0) (hsome : 0 < cap → sa = some ⟨bk, o, none⟩ ∧ ∃ v, W.cell? ⟨bk, o, none⟩ = some v)
    (hcells : ∀ j p, ps[j]? = some p → W.cell? ⟨bk, o + j * 2, none⟩ = some (.int .i64 p.1) ∧ W.cell? ⟨bk, o + j * 2 + 1, none⟩ = some (.int .i64 p.2)) (hin : ∀ p ∈ ps, in64 p.1 ∧ in64 p.2) (hll : len ≤ 2 ^ 40) :
    Calls Tryz.prog 4 #[.agg #[.int .i64 t, .bool ret, .int .i64 k, .int .i64 a, .int .i64 b, .int .i64 c, .bool ok, .int .i64 rk, .int .i64 rv, .slice sa len cap]] W fun e w' => e = .returned (.bool true) ∧ Below W.heap.size W w' := by
  -- a block for the array, whatever
  obtain ⟨bk', o', hblk, hrow, hsa⟩ : ∃ bk' o' : Nat, (∃ cs T fr, W.heap[bk']? = some (.cells cs T fr) ∧ ∀ i v, (pcells ps)[i]? = some v → cs[o' + i]? = some v) ∧ True ∧ (0 < cap → sa = some ⟨bk', o', none⟩) := by
    rcases Nat.eq_zero_or_pos cap with h0 | h0
    · obtain ⟨cs, T, fr, hb, _⟩ : ∃ cs T fr, W.heap[1]? = some (.cells cs T fr) ∧ True := by
        have := htab.cell pow10_global 0 (by decide)
        obtain ⟨cs, T, fr, h1, _⟩ := cell_block this
        exact ⟨cs, T, fr, h1, trivial⟩
      have hps : ps = [] := List.eq_nil_of_length_eq_zero (by omega)
      exact ⟨1, 0, ⟨cs, T, fr, hb, fun i v hi => by rw [hps] at hi; simp [pcells] at hi⟩, trivial, fun h => by omega⟩
    · obtain ⟨h1, v, hv⟩ := hsome h0
      obtain ⟨cs, T, fr, hb, _⟩ := cell_block hv
      refine ⟨bk, o, ⟨cs, T, fr, hb, fun i v hi => ?_⟩, trivial, fun _ => h1⟩
      obtain ⟨j, p, hp, hh⟩ := pcells_get hi
      obtain ⟨c1, c2⟩ := hcells j p hp
      rcases hh with ⟨rfl, rfl⟩ | ⟨rfl, rfl⟩
      · obtain ⟨cs', T', fr', hb', hc'⟩ := cell_block c1
        rw [hb] at hb'; simp only [Option.some.injEq, Obj.cells.injEq] at hb'
        obtain ⟨rfl, _, _⟩ := hb'
        exact hc'
      · obtain ⟨cs', T', fr', hb', hc'⟩ := cell_block c2
        rw [hb] at hb'; simp only [Option.some.injEq, Obj.cells.injEq] at hb'
        obtain ⟨rfl, _, _⟩ := hb'
        rw [← Nat.add_assoc]; exact hc'
  -- the abstract heap
  let m0 : Mem := fun i => if i = 0 then some (.arr true 2 0 (pcells ps)) else none
  let h0 : St := ⟨m0, 1, fun _ => true, 1⟩
  have w0 : Wf h0 := ⟨fun _ _ => rfl, Nat.le_refl _, fun id hid => by simp only [h0, m0] at hid ⊢; rw [if_neg (by omega)]⟩
  obtain ⟨va, hva, hsh⟩ : ∃ va : Option Addr, (va = none ∧ sa = none ∨ va = some ⟨0, 0, none⟩ ∧ sa ≠ none) ∧ Shows h0 2 va len 0 (pcells ps) := by
    cases sa with
    | none =>
      obtain ⟨h1, _⟩ := hnil rfl
      have hps : ps = [] := List.eq_nil_of_length_eq_zero (by omega)
      exact ⟨none, .inl ⟨rfl, rfl⟩, .inl ⟨h1, by rw [hps]; rfl⟩⟩
    | some ca =>
      refine ⟨some ⟨0, 0, none⟩, .inr ⟨rfl, by simp⟩, .inr ⟨_, true, pcells ps, rfl, rfl, rfl, ?_, ?_⟩⟩
      · rw [pcells_length]; simp; omega
      · rw [List.drop_zero, List.take_of_length_le (by rw [pcells_length]; omega)]
  obtain ⟨h', e, g⟩ := C4 (len + 60) t ret k a b c ok rk rv h0 w0 ht hk ha hb hc hrk hrv hsh hl hin hll (Nat.le_refl _)
  obtain ⟨hle, hS⟩ := callS htab (len + 60) _ _ _ _ _ e
  have C : RRel W ⟨fun _ => bk', fun _ => o', fun _ => cap * 2⟩ m0 W.heap.size h'.next h'.next h0 W := by
    refine ⟨⟨fun id ob hob => ?_, fun i j x y hx hy hne hro => ?_, Nat.le_refl _⟩, fun id ob hob => ?_, fun id ob hob => ?_, fun id h1 h2 => ?_, fun id h1 => ?_, Nat.le_refl _, fun _ _ => rfl, Nat.le_refl _, ⟨Nat.le_refl _, Below.refl _ _⟩⟩
    · simp only [m0] at hob
      split at hob
      · rename_i hid; subst hid
        simp only [Option.some.injEq] at hob; subst hob
        obtain ⟨cs, T, fr, hb1, hb2⟩ := hblk
        refine ⟨cs, T, fr, hb1, fun i v hi => ⟨v, hb2 i v hi, ?_⟩, fun hh => by simp at hh⟩
        obtain ⟨j, p, _, hh⟩ := pcells_get hi
        rcases hh with ⟨_, rfl⟩ | ⟨_, rfl⟩ <;> exact .int _ _
      · simp at hob
    · simp only [m0] at hx
      split at hx
      · simp only [Option.some.injEq] at hx; subst hx; simp [AObj.ro] at hro
      · simp at hx
    · simpa [St.get, h0] using hob
    · rcases Nat.lt_or_ge id 1 with h1 | h1
      · exact h1
      · simp only [St.get, h0, m0, if_true] at hob
        rw [if_neg (by omega)] at hob; simp at hob
    · simp only [h0, m0] at h1 ⊢; rw [if_neg (by omega)]
    · simp only [m0]
      rw [if_neg]
      have : 1 ≤ h'.next := hle
      omega
  have hargs : LRel ⟨fun _ => bk', fun _ => o', fun _ => cap * 2⟩ m0 [.agg #[.int .i64 t, .bool ret, .int .i64 k, .int .i64 a, .int .i64 b, .int .i64 c, .bool ok, .int .i64 rk, .int .i64 rv, .slice va len 0]]
      (#[.agg #[.int .i64 t, .bool ret, .int .i64 k, .int .i64 a, .int .i64 b, .int .i64 c, .bool ok, .int .i64 rk, .int .i64 rv, .slice sa len cap]] : Array Value).toList := by
    have hsl : VRel ⟨fun _ => bk', fun _ => o', fun _ => cap * 2⟩ m0 (.slice va len 0) (.slice sa len cap) := by
      rcases hva with ⟨rfl, rfl⟩ | ⟨rfl, hne⟩
      · obtain ⟨rfl, rfl⟩ := hnil rfl; exact .snil
      · cases sa with
        | none => exact absurd rfl hne
        | some ca =>
          refine .slice 0 0 len 0 true 2 0 (pcells ps) ca cap rfl (Nat.le_refl _) hcap fun _ => ⟨by rw [pcells_length]; omega, fun h1 => ?_, by simp⟩
          have := hsa h1
          simp only [Option.some.injEq] at this
          rw [this]; simp
    refine LRel.cons (LRel.agg' ?_) (LRel.nil _ _)
    exact .cons (.int _ _) (.cons (.bool _) (.cons (.int _ _) (.cons (.int _ _) (.cons (.int _ _) (.cons (.int _ _) (.cons (.bool _) (.cons (.int _ _) (.cons (.int _ _) (.cons hsl (LRel.nil _ _))))))))))
  rcases hS _ _ _ _ _ W _ C (Nat.le_refl _) hargs with ⟨cv, α', m', M', w', h1, _⟩ | ⟨_, h2⟩
  · rw [enters Tryz.func4 rfl (by decide)] at h1; simp at h1
  · refine h2.mono fun e w' ⟨cv, α', m', M', he, hr, p⟩ => ⟨?_, p.below⟩
    rw [he]; cases hr; rfl
end Go.Am.Sh
