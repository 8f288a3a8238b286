/- Shell: the atomic stores, of one goroutine. -/
import Derived.Test.YtgpeieohdelniaaGreatDoorShLib2
import Derived.WalkKit
namespace Go.Am.Sh
open Go Go.RowKit Go.Am Go.Proofs
set_option maxRecDepth 100000

def xStore : AFn := fun args h => match args with
  | [p, v] => bcond (one1 v) (obind (stN h 1 v p) fun h' => some (undef, h')) none
  | _ => none

theorem xStore_core {W0 : World} {P : Program} {f : FuncId} {fn : Func} (hf : P.funcs[f]? = some fn) (hb : fn.body = none) (hn : fn.name ≠ "runtime.NumGoroutine")
    (h1 : Extern.findNext fn = none) (h2 : Extern.find fn = some Extern.Atomic.storeT) {pp x : Value} {h h2' : St} (ho : one1 x = true) (hk : stN h 1 x pp = some h2')
    {α : Corr} {m : Mem} {B U M : Nat} {w : World} {c1 c2 : Value} (C : RRel W0 α m B U M h w) (hN : h2'.next ≤ U) (r1 : VRel α m pp c1) (r2 : VRel α m x c2) :
    ∃ q m' w', c1 = .pointer (some q) ∧ (callFunc f #[c1, c2]).run P w = .ok (.value (.tuple #[])) w' ∧ Post W0 B M U α m M h w α m' M h2' w' := by
  obtain ⟨g', hk', hM⟩ := C.subFull.stN hk
  obtain ⟨hsz, q, w', rfl, hrun, hH, hle, hbl⟩ := stN_sound (P := P) (B := B) hk' C.heap r1 r2
  have ho2 : one1 c2 = true := by rw [r2.one1]; exact ho
  have hcells : c2.cells = #[c2] := one1_cells ho2
  rw [hcells] at hrun
  have p : Post W0 B M U α m M h w α g'.m M h2' w' := C.moved hM hN hH hle hbl
  refine ⟨q, g'.m, w', rfl, ?_, p⟩
  have hcell : ∃ u, w.cell? q = some u := by
    cases pp with
    | pointer pa =>
      cases pa with
      | none => simp [stN] at hk'
      | some a =>
        simp only [stN] at hk'
        obtain ⟨c, hr, hk'⟩ := Option.bind_eq_some_iff.1 hk'
        split at hk'
        · rename_i hc
          obtain ⟨he, cs, T, fr, hb', hcr⟩ := row_at hr C.heap r1
          simp only [Value.pointer.injEq, Option.some.injEq] at he
          obtain ⟨cw, hcw, _⟩ := hcr a.off _ (List.getElem?_eq_getElem (by omega))
          exact ⟨cw, by rw [he]; simp [World.cell?, hb', hcw]⟩
        · simp at hk'
    | _ => simp [stN] at hk'
  obtain ⟨u, hu⟩ := hcell
  have hq0 : q.add 0 = q := by simp [Addr.add]
  have hone : c2.oneCell' = true := by cases c2 <;> first | rfl | simp [one1] at ho2
  have hst : (store q c2 .atomic).run P w = .ok () w' := by
    simp only [storeCells, Sem.run_bind, hq0] at hrun
    rw [run_store P w q c2 .plain hone, hu] at hrun
    rw [run_store P w q c2 .atomic hone, hu]
    simp only at hrun ⊢
    split
    · rename_i hz; rw [if_pos hz] at hrun; simp [Result.andThen] at hrun
    · rename_i hz; rw [if_neg hz] at hrun; simpa [Result.andThen] using hrun
  have hcall : (Extern.Atomic.storeT #[.pointer (some q), c2]).run P w = .ok (.tuple #[]) w' := by
    have hst2 : Extern.Atomic.storeT #[.pointer (some q), c2] = (do store q c2 .atomic; pure Extern.Atomic.none_) := rfl
    rw [hst2, Sem.run_bind, hst]; rfl
  have hbn : (fn.name == "runtime.NumGoroutine") = false := by simpa using hn
  simp [callFunc, hf, hbn, hb, h1, h2, hcall, Result.andThen, hn]

theorem xStore_sound {W0 : World} {P : Program} {f : FuncId} {fn : Func} (hf : P.funcs[f]? = some fn) (hb : fn.body = none) (hn : fn.name ≠ "runtime.NumGoroutine")
    (h1 : Extern.findNext fn = none) (h2 : Extern.find fn = some Extern.Atomic.storeT) : ExtS W0 P f xStore := by
  intro args h v h' e
  unfold xStore at e
  split at e
  · rename_i pp x
    rw [bcond_eq] at e
    split at e
    · rename_i ho
      obtain ⟨h2', hk, e⟩ := Option.bind_eq_some_iff.1 e
      simp only [Option.some.injEq, Prod.mk.injEq] at e
      obtain ⟨rfl, rfl⟩ := e
      obtain ⟨_, _, hM0⟩ := (Sub.refl h).stN hk
      refine ⟨hM0.le, fun α m B U M w cargs C hN ha => ?_⟩
      obtain ⟨c1, c2, rfl, r1, r2⟩ := ha.two_inv
      obtain ⟨q, m', w', rfl, hc, p⟩ := xStore_core hf hb hn h1 h2 ho hk C hN r1 r2
      exact .inl ⟨.tuple #[], α, m', M, w', hc, VRel.undef _ _, p⟩
    · simp at e
  · simp at e
theorem store64 {W0 : World} : ExtS W0 Tryz.prog 243 xStore := xStore_sound Tryz.func243 rfl (by decide) (by kernel_rfl) (by kernel_rfl)
theorem storeP {W0 : World} : ExtS W0 Tryz.prog 242 xStore := xStore_sound Tryz.func242 rfl (by decide) (by kernel_rfl) (by kernel_rfl)

/-! atomic.Pointer's Store -/
/-- Is it nil, or a pointer into a variable? -/
def cellPtr (h : St) : Value → Bool
  | .pointer none => true
  | .pointer (some a) => match h.get a.block with
    | some (.cells _ c) => decide (a.off < c.length) && decide (a.spot = none)
    | _ => false
  | _ => false
def xStoreP : AFn := fun args h => match args with
  | [p, v] => bcond (one1 v && cellPtr h v) (obind (stN h 1 v p) fun h' => some (undef, h')) none
  | _ => none

theorem conv_ptr {P : Program} {src dst t : TypeId} {j : TypeInfo} (hs : P.underlying src = some (.pointer t)) (hd : P.underlying dst = some .unsafePointer) (ht : P.info? t = some j) (hj : j.size ≠ 0)
    {W0 : World} {α : Corr} {m : Mem} {B U M : Nat} {h : St} {w : World} (C : RRel W0 α m B U M h w) {x c : Value} (hx : cellPtr h x = true) (r : VRel α m x c) :
    (convert src dst c).run P w = .ok c w := by
  unfold cellPtr at hx
  split at hx
  · cases r
    simp [convert, run_underlying hs, run_underlying hd, Conv.unsafePointer]
  · rename_i a
    split at hx
    · rename_i ro cc hg
      simp only [Bool.and_eq_true, decide_eq_true_eq] at hx
      obtain ⟨blk, off, spot⟩ := a
      simp only at hg hx
      obtain ⟨h1, rfl⟩ := hx
      have hm := C.sub _ _ hg
      obtain ⟨cs, T, fr, hb, hcr, _⟩ := C.heap.obj _ _ hm
      have := r.pcell_inv hm
      subst this
      obtain ⟨cw, hcw, _⟩ := hcr off _ (List.getElem?_eq_getElem h1)
      have hlt : α.off blk + off < cs.size := (Array.getElem?_eq_some_iff.1 hcw).1
      refine Lib.run_to_unsafe w ⟨α.blk blk, α.off blk + off, none⟩ hs hd ht hj (cells := cs.size) (e := T) ?_ hlt
      simp [World.shape?, hb]
    · simp at hx
  · simp at hx

theorem xStoreP_sound {W0 : World} {f : FuncId} (hcalls : ∀ (w : World) (p : Addr) (x : Value) (w' : World), (callFunc 242 #[.pointer (some p), x]).run Tryz.prog w = .ok (.value (.tuple #[])) w' →
      (∀ (α : Corr) (m : Mem) (B U M : Nat) (h : St) (y : Value), RRel W0 α m B U M h w → cellPtr h y = true → VRel α m y x → Calls Tryz.prog f #[.pointer (some p), x] w fun e w'' => e = .returned (.tuple #[]) ∧ w'' = w'))
    {fn : Func} {c : Code} (hf : Tryz.prog.funcs[f]? = some fn) (hb : fn.body = some c) (hn : fn.name ≠ "runtime.NumGoroutine") : ExtS W0 Tryz.prog f xStoreP := by
  intro args h v h' e
  unfold xStoreP at e
  split at e
  · rename_i pp x
    rw [bcond_eq] at e
    split at e
    · rename_i ho
      rw [Bool.and_eq_true] at ho
      obtain ⟨h2', hk, e⟩ := Option.bind_eq_some_iff.1 e
      simp only [Option.some.injEq, Prod.mk.injEq] at e
      obtain ⟨rfl, rfl⟩ := e
      obtain ⟨_, _, hM0⟩ := (Sub.refl h).stN hk
      refine ⟨hM0.le, fun α m B U M w cargs C hN ha => ?_⟩
      obtain ⟨c1, c2, rfl, r1, r2⟩ := ha.two_inv
      obtain ⟨q, m', w', rfl, hc, p⟩ := xStore_core (P := Tryz.prog) (f := 242) Tryz.func242 rfl (by decide) (by kernel_rfl) (by kernel_rfl) ho.1 hk C hN r1 r2
      refine .inr ⟨enters hf hb hn _ _, ?_⟩
      refine (hcalls w q c2 w' hc α m B U M h x C ho.2 r2).mono ?_
      rintro e w'' ⟨rfl, rfl⟩
      exact ⟨.tuple #[], α, m', M, rfl, VRel.undef _ _, p⟩
    · simp at e
  · simp at e

theorem storeP222 {W0 : World} : ExtS W0 Tryz.prog 222 xStoreP := by
  refine xStoreP_sound (fun w p x w' hcall α m B U M h y C hy r => ?_) Tryz.func222 rfl (by decide)
  have hconv : (convert 170 130 x).run Tryz.prog w = .ok x w := conv_ptr (t := _) (j := _) rfl rfl rfl (by decide) C hy r
  go_enter Tryz.func222, Tryz.ntmps222
  go_wp2
  first | go_end0 | go_ret
  exact ⟨rfl, rfl⟩
theorem storeP224 {W0 : World} : ExtS W0 Tryz.prog 224 xStoreP := by
  refine xStoreP_sound (fun w p x w' hcall α m B U M h y C hy r => ?_) Tryz.func224 rfl (by decide)
  have hconv : (convert 246 130 x).run Tryz.prog w = .ok x w := conv_ptr (t := _) (j := _) rfl rfl rfl (by decide) C hy r
  go_enter Tryz.func224, Tryz.ntmps224
  go_wp2
  first | go_end0 | go_ret
  exact ⟨rfl, rfl⟩
end Go.Am.Sh
