/- Functions that are known by a contract of the library's. -/
import Derived.Test.YtgpeieohdelniaaGreatDoorAmDraw4
namespace Go.Am
open Go Go.RowKit

section
variable {P : Program} {α : Corr} {m : Mem} {B U M : Nat} {h : St} {W0 w w' : World}

theorem HRel.below (H : HRel α m B w) (hb : Below w.heap.size w w') : HRel α m B w' := by
  refine ⟨fun id o k => ?_, H.sep, Nat.le_trans H.low hb.size⟩
  have hO := H.obj id o k
  exact hO.keep (Le.refl _ _) rfl rfl rfl (hb.block _ hO.lt)

/-- A call that turns nothing of what was there. -/
theorem Post.still {G : Nat} (C : RRel W0 α m B U M h w) (hb : Below w.heap.size w w') : Post W0 B G U α m M h w α m M h w' := by
  have hbB : Below B w w' := hb.mono C.heap.low
  exact ⟨⟨C.heap.below hb, C.sub, C.dom, C.free, C.top, C.UM, C.vis, C.fl, C.old.trans hbB⟩, Le.refl _ _, hbB, Nat.le_refl _, rfl, rfl, Nat.le_refl _, fun _ _ _ => rfl⟩

theorem CallOut.of_calls {f : FuncId} {cargs : Array Value} {v cv : Value} (hE : (callFunc f cargs).run P w = .ok (.enter f cargs) w) (C : RRel W0 α m B U M h w) (hv : VRel α m v cv)
    (hc : Calls P f cargs w fun e w' => e = .returned cv ∧ Below w.heap.size w w') : CallOut W0 P f cargs α m B U M h w v h :=
  .inr ⟨hE, hc.mono fun e w' ⟨he, hb⟩ => ⟨cv, α, m, M, he, hv, Post.still C hb⟩⟩

/-- A function of the Go text is entered. -/
theorem enters {f : FuncId} {fn : Func} {c : Code} (hf : P.funcs[f]? = some fn) (hb : fn.body = some c) (hn : fn.name ≠ "runtime.NumGoroutine") (args : Array Value) (w : World) :
    (callFunc f args).run P w = .ok (.enter f args) w := by
  simp [callFunc, hf, hb, hn]

theorem LRel.one {v : Value} {cs : List Value} (hL : LRel α m [v] cs) : ∃ c, cs = [c] ∧ VRel α m v c := by
  have hl := hL.1
  match cs, hl with
  | [c], _ => exact ⟨c, rfl, by simpa using hL.getD 0⟩

/-- A row of an array that a slice shows, in the world. -/
theorem HRel.row {id off len : Nat} {ro : Bool} {e g : Nat} {c : List Value} (H : HRel α m B w) (hm : m id = some (.arr ro e g c)) {cv : Value} (hv : VRel α m (.slice (some ⟨id, off, none⟩) len g) cv) (hl : 0 < len) :
    ∃ cap, cv = .slice (some ⟨α.blk id, α.off id + off, none⟩) len cap ∧ len ≤ cap ∧ off + len * e ≤ c.length ∧ α.blk id < w.heap.size ∧
      ∀ i v, i < len * e → c[off + i]? = some v → ∃ cw, w.cell? ⟨α.blk id, α.off id + off + i, none⟩ = some cw ∧ VRel α m v cw := by
  cases hv with
  | slice _ _ _ _ ro' e' g' c' ca cap h hg hc hl' =>
    rw [hm] at h
    simp only [Option.some.injEq, AObj.arr.injEq] at h
    obtain ⟨rfl, rfl, rfl, rfl⟩ := h
    obtain ⟨h1, h2, h3⟩ := hl' rfl
    have hO := H.obj _ _ hm
    have hlt := hO.lt
    obtain ⟨cs, T, fr, hb, hcr, _⟩ := hO
    refine ⟨cap, by rw [h2 (by omega)], hc, h1, hlt, fun i v hi hv => ?_⟩
    obtain ⟨cw, hcw, hR⟩ := hcr _ _ hv
    refine ⟨cw, ?_, hR⟩
    simp only [World.cell?, hb]
    rw [← hcw, Nat.add_assoc]; rfl

end
end Go.Am
