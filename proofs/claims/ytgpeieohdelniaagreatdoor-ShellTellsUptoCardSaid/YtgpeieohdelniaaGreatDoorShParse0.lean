/- shell.Parse of the empty text. -/
import Derived.RangeFuncRecord
import Derived.RangeFuncLeaves
import Derived.WalkKit
import Derived.TacticsIn
import Derived.BigFrameIn
import Derived.LoopN
import Derived.Test.YtgpeieohdelniaaGreatDoorProg
namespace Go.Am.Sh
open Go Go.RowKit Go.Proofs
set_option maxRecDepth 100000

/-- strings.Lines' iterator over nothing. -/
theorem lines_none (w : World) (y : Value) (b : Nat) (hc : w.cell? ⟨b, 0, none⟩ = some (.string ⟨#[]⟩)) : Calls Tryz.prog 52 #[y, .pointer (some ⟨b, 0, none⟩)] w fun e w' => (∃ v, e = .returned v) ∧ w' = w := by
  go_enter Tryz.func52, Tryz.ntmps52
  refine wp_block ?_
  refine wp_loop_rounds 1 ?_
  rw [rounds_succ]
  go_wp2
  first | go_end0 | go_ret
  exact ⟨⟨_, rfl⟩, rfl⟩

theorem lines_of (s : ByteArray) (w : World) : Calls Tryz.prog 23 #[.string s] w fun e w' => e = .returned (.func (.func 52) #[] #[.pointer (some ⟨w.heap.size, 0, none⟩)]) ∧ w' = w.alloc (.cells #[.string s] 9) := by
  go_enter Tryz.func23, Tryz.ntmps23
  go_wp2
  first | go_end0 | go_ret
  exact ⟨rfl, rfl⟩

theorem alloc_get (w : World) (o : Obj) (k : Nat) : (w.alloc o).heap[k]? = if k = w.heap.size then some o else w.heap[k]? := by
  show (w.heap.push o)[k]? = _
  rw [Array.getElem?_push]

theorem set_same {W : World} {p : Addr} {v : Value} (h : W.cell? p = some v) (a : Addr) : (W.setCell p v).cell? a = W.cell? a := by
  by_cases hp : p = a
  · subst hp; rw [World.cell?_setCell_same _ _ _ h, h]
  · exact World.cell?_setCell_other (h := hp) ..

/-- A range over no lines. -/
theorem range_none {x : Operand} {ps : Array Tmp} {ac bd : Code} {Q : Exit → Act → World → Prop} {a : Act} {w : World} {sb : Nat} (hg : a.eval x = .func (.func 52) #[] #[.pointer (some ⟨sb, 0, none⟩)])
    (hs : w.heap[sb]? = some (.cells #[.string ⟨#[]⟩] 9))
    (hQ : ∀ w3, Below w.heap.size w w3 → w3.heap[w.heap.size]? = some (.deferred (some [])) → Q .normal { a with defers := { target := .collected w.heap.size, args := #[] } :: a.defers } w3) :
    (Code.rangeFunc x ps ac bd).wpIn Fence.wide 2 Tryz.prog Q a w := by
  refine wpIn_rangeFunc ?_
  intro fn hfn
  obtain ⟨W1, hW1⟩ : ∃ W1, (w.alloc (.deferred (some []))).alloc (.loop { state := .ready, pending := none, fn, tmps := a.tmps, params := ps, assign := ac, body := bd, defers := w.heap.size }) = W1 := ⟨_, rfl⟩
  have hlt : sb < w.heap.size := (Array.getElem?_eq_some_iff.1 hs).1
  have hB1 : Below w.heap.size w W1 := by
    rw [← hW1]; exact ((Below.refl _ w).alloc (Nat.le_refl _) _).alloc (by simp only [World.size_alloc]; omega) _
  have hL : W1.heap[w.heap.size + 1]? = some (.loop { state := .ready, pending := none, fn, tmps := a.tmps, params := ps, assign := ac, body := bd, defers := w.heap.size }) := by
    rw [← hW1]; have := World.alloc_heap_new (w.alloc (.deferred (some []))) (.loop { state := .ready, pending := none, fn, tmps := a.tmps, params := ps, assign := ac, body := bd, defers := w.heap.size }); rwa [World.size_alloc] at this
  have hK : W1.heap[w.heap.size]? = some (.deferred (some [])) := by
    rw [← hW1]; exact (Below.heap_alloc _ _ _ (by simp)).trans (World.alloc_heap_new w _)
  have hs1 : W1.cell? ⟨sb, 0, none⟩ = some (.string ⟨#[]⟩) := by
    have : W1.heap[sb]? = some (.cells #[.string ⟨#[]⟩] 9) := by rw [hB1.block sb hlt]; exact hs
    simp [World.cell?, this]
  refine ⟨w.heap.size + 1, [{ target := .collected w.heap.size, args := #[] }], W1, { target := .fn (.func 52) #[.pointer (some ⟨sb, 0, none⟩)], args := #[.func (.yield (w.heap.size + 1)) #[] #[]] }, W1, 52,
    #[.func (.yield (w.heap.size + 1)) #[] #[], .pointer (some ⟨sb, 0, none⟩)], W1, ?_, ?_, ?_, ?_, fun _ => by omega, ?_⟩
  · rw [← hW1]; exact run_enterLoop_outer _ _ _ _ _
  · simp only [resolve, hg]
    simp [go_sem]
  · intro f' hf'; trivial
  · simp [invoke, go_sem]
  · refine CallsIn.mono (callsIn_wide.2 (lines_none _ _ _ hs1)) ?_
    rintro e w2 ⟨⟨v, rfl⟩, rfl⟩
    refine ⟨none, _, run_endLoop hL (by simp), ?_⟩
    refine hQ _ (hB1.trans ?_) ?_
    · exact ⟨rfl, rfl, rfl, by simp [World.putObj], fun k hk => World.putObj_heap_other (by omega)⟩
    · exact (World.putObj_heap_other (by omega)).trans hK

set_option maxHeartbeats 1000000 in
theorem parse_none (w : World) :
    Calls Tryz.prog 8 #[.string ⟨#[]⟩] w fun e w' => e = .returned (.tuple #[.agg #[.slice none 0 0, .slice none 0 0, .slice none 0 0], .int .i64 0, .int .i64 0]) ∧ Below w.heap.size w w' := by
  refine (callsIn_wide (n := 2)).1 ?_
  refine callsIn_of_wp_marks Tryz.func8 rfl trivial ?_ rfl
  simp only [Tryz.ntmps8, List.size_toArray, List.length_cons, List.length_nil, Nat.reduceAdd, Nat.reduceSub, Array.replicate_succ, Array.replicate_zero, List.push_toArray, List.append_toArray, List.nil_append, List.cons_append]
  gi_wp2
  refine ⟨trivial, CallsIn.mono (callsIn_wide.2 (lines_of _ _)) ?_⟩
  rintro e w1 ⟨rfl, hw1⟩
  simp only [World.size_alloc] at hw1 ⊢
  obtain ⟨g, hg⟩ : ∃ g, w.heap.size = g := ⟨_, rfl⟩
  simp only [hg]
  have hsz : w1.heap.size = g + 7 := by rw [hw1]; simp [hg]
  have hbel : Below g w w1 := by
    rw [hw1]
    have b0 := Below.refl g w
    have b1 := b0.alloc (by omega) (Obj.cells #[Value.slice none 0 0, Value.slice none 0 0, Value.slice none 0 0] 27)
    have b2 := b1.alloc (by simp only [World.size_alloc]; omega) (Obj.cells #[Value.int IntKind.i64 0] 3)
    have b3 := b2.alloc (by simp only [World.size_alloc]; omega) (Obj.cells #[Value.int IntKind.i64 0] 28)
    have b4 := b3.alloc (by simp only [World.size_alloc]; omega) (Obj.cells #[Value.slice none 0 0, Value.slice none 0 0, Value.slice none 0 0] 63)
    have b5 := b4.alloc (by simp only [World.size_alloc]; omega) (Obj.cells #[Value.bool false] 4)
    have b6 := b5.alloc (by simp only [World.size_alloc]; omega) (Obj.cells #[Value.int IntKind.i64 0] 3)
    exact b6.alloc (by simp only [World.size_alloc]; omega) _
  gi_wp2
  have hh : w1.heap[g + 6]? = some (.cells #[.string ⟨#[]⟩] 9) := by
    rw [hw1]
    refine Eq.trans (congrArg _ ?_) (World.alloc_heap_new _ _)
    simp only [World.size_alloc, hg]
  have hs : w1.cell? ⟨g + 6, 0, none⟩ = some (.string ⟨#[]⟩) := by simp [World.cell?, hh]
  refine range_none (sb := g + 6) (by simp [Act.eval]) hh ?_
  intro w3 hb3 hK3
  rw [hsz] at hb3 hK3
  have old : ∀ k, k < g + 7 → w3.heap[k]? = w1.heap[k]? := fun k hk => hb3.block k hk
  have e0 : w3.heap[g]? = some (.cells #[.slice none 0 0, .slice none 0 0, .slice none 0 0] 27) := by
    rw [old _ (by omega), hw1]; simp only [alloc_get, World.size_alloc, hg, reduceIte]; (repeat' split) <;> first | rfl | (exfalso; omega)
  have e1 : w3.heap[g + 1]? = some (.cells #[.int .i64 0] 3) := by
    rw [old _ (by omega), hw1]; simp only [alloc_get, World.size_alloc, hg, reduceIte]; (repeat' split) <;> first | rfl | (exfalso; omega)
  have e2 : w3.heap[g + 1 + 1]? = some (.cells #[.int .i64 0] 28) := by
    rw [old _ (by omega), hw1]; simp only [alloc_get, World.size_alloc, hg, reduceIte]; (repeat' split) <;> first | rfl | (exfalso; omega)
  have e3 : w3.heap[g + 1 + 1 + 1]? = some (.cells #[.slice none 0 0, .slice none 0 0, .slice none 0 0] 63) := by
    rw [old _ (by omega), hw1]; simp only [alloc_get, World.size_alloc, hg, reduceIte]; (repeat' split) <;> first | rfl | (exfalso; omega)
  have c0 : ∀ j, w3.cell? ⟨g, j, none⟩ = (#[Value.slice none 0 0, .slice none 0 0, .slice none 0 0])[j]? := fun j => by simp [World.cell?, e0]
  have c1 : ∀ j, w3.cell? ⟨g + 1, j, none⟩ = (#[Value.int .i64 0])[j]? := fun j => by simp [World.cell?, e1]
  have c2 : ∀ j, w3.cell? ⟨g + 1 + 1, j, none⟩ = (#[Value.int .i64 0])[j]? := fun j => by simp [World.cell?, e2]
  have c3 : ∀ j, w3.cell? ⟨g + 1 + 1 + 1, j, none⟩ = (#[Value.slice none 0 0, .slice none 0 0, .slice none 0 0])[j]? := fun j => by simp [World.cell?, e3]
  have f0 : ∀ j, w3.frozen? ⟨g, j, none⟩ = false := fun j => by simp [World.frozen?, e0]
  have f1 : ∀ j, w3.frozen? ⟨g + 1, j, none⟩ = false := fun j => by simp [World.frozen?, e1]
  have f2 : ∀ j, w3.frozen? ⟨g + 1 + 1, j, none⟩ = false := fun j => by simp [World.frozen?, e2]
  have f3 : ∀ j, w3.frozen? ⟨g + 1 + 1 + 1, j, none⟩ = false := fun j => by simp [World.frozen?, e3]
  clear e0 e1 e2 e3 old hw1
  gi_wp2
  generalize hW4 : ((((w3.setCell ⟨g, 0, none⟩ (Value.slice none 0 0)).setCell ⟨g, 1, none⟩ (Value.slice none 0 0)).setCell ⟨g, 2, none⟩ (Value.slice none 0 0)).setCell ⟨g + 1, 0, none⟩ (Value.int .i64 0)).setCell ⟨g + 1 + 1, 0, none⟩ (Value.int .i64 0) = W4
  have hB4 : Below g w3 W4 := by
    rw [← hW4]
    exact (((((Below.refl g w3).setCell (Nat.le_refl _) _).setCell (Nat.le_refl _) _).setCell (Nat.le_refl _) _).setCell (by simp) _).setCell (by simp; omega) _
  have hK4 : W4.heap[w1.heap.size]? = some (.deferred (some [])) := by
    rw [hsz, ← hW4]
    refine (Below.heap_setCell _ _ _ _ (by simp only []; omega)).trans ?_
    refine (Below.heap_setCell _ _ _ _ (by simp only []; omega)).trans ?_
    refine (Below.heap_setCell _ _ _ _ (by simp only []; omega)).trans ?_
    refine (Below.heap_setCell _ _ _ _ (by simp only []; omega)).trans ?_
    refine (Below.heap_setCell _ _ _ _ (by simp only []; omega)).trans ?_
    exact hK3
  have same : ∀ a, W4.cell? a = w3.cell? a := fun a => by
    rw [← hW4]
    have s1 := set_same (W := w3) (p := ⟨g, 0, none⟩) (v := .slice none 0 0) (c0 0)
    have s2 := set_same (W := w3.setCell ⟨g, 0, none⟩ (.slice none 0 0)) (p := ⟨g, 1, none⟩) (v := .slice none 0 0) ((s1 _).trans (c0 1))
    have s3 := set_same (W := (w3.setCell ⟨g, 0, none⟩ (.slice none 0 0)).setCell ⟨g, 1, none⟩ (.slice none 0 0)) (p := ⟨g, 2, none⟩) (v := .slice none 0 0) ((s2 _).trans ((s1 _).trans (c0 2)))
    have s4 := set_same (W := ((w3.setCell ⟨g, 0, none⟩ (.slice none 0 0)).setCell ⟨g, 1, none⟩ (.slice none 0 0)).setCell ⟨g, 2, none⟩ (.slice none 0 0)) (p := ⟨g + 1, 0, none⟩) (v := .int .i64 0) ((s3 _).trans ((s2 _).trans ((s1 _).trans (c1 0))))
    have s5 := set_same (W := (((w3.setCell ⟨g, 0, none⟩ (.slice none 0 0)).setCell ⟨g, 1, none⟩ (.slice none 0 0)).setCell ⟨g, 2, none⟩ (.slice none 0 0)).setCell ⟨g + 1, 0, none⟩ (.int .i64 0)) (p := ⟨g + 1 + 1, 0, none⟩) (v := .int .i64 0) ((s4 _).trans ((s3 _).trans ((s2 _).trans ((s1 _).trans (c2 0)))))
    rw [s5, s4, s3, s2, s1]
  have z0 := (same ⟨g, 0, none⟩).trans (c0 0)
  have z1 := (same ⟨g, 1, none⟩).trans (c0 1)
  have z2 := (same ⟨g, 2, none⟩).trans (c0 2)
  have z3 := (same ⟨g + 1, 0, none⟩).trans (c1 0)
  have z4 := (same ⟨g + 1 + 1, 0, none⟩).trans (c2 0)
  refine ⟨by simp, .inl ⟨_, _, rfl, run_takeDeferred hK4, ?_⟩⟩
  have up : ∀ b j, b < g + 7 → (W4.putObj w1.heap.size (.deferred none)).cell? ⟨b, j, none⟩ = W4.cell? ⟨b, j, none⟩ := fun b j hb => World.cell?_of_block (World.putObj_heap_other (by simp only []; omega))
  have y0 := (up g 0 (by omega)).trans z0
  have y1 := (up g 1 (by omega)).trans z1
  have y2 := (up g 2 (by omega)).trans z2
  have y3 := (up (g + 1) 0 (by omega)).trans z3
  have y4 := (up (g + 1 + 1) 0 (by omega)).trans z4
  refine ⟨.tuple #[.agg #[.slice none 0 0, .slice none 0 0, .slice none 0 0], .int .i64 0, .int .i64 0], ?_, rfl, ?_⟩
  · simp [results, Tryz.results8, go_sem, y0, y1, y2, y3, y4, asAddr, loadVar, Tryz.isAgg27, Tryz.isAgg3, Tryz.isAgg28, Tryz.sizeOf27]
  · rw [hg]
    refine (hbel.trans (hb3.mono (by omega))).trans (hB4.trans ⟨rfl, rfl, rfl, by simp [World.putObj], fun k hk => World.putObj_heap_other (by omega)⟩)
end Go.Am.Sh
