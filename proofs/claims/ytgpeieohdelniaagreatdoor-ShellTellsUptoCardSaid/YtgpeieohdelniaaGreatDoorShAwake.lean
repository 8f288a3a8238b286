/- Shell: the lines that the document fixes, as a function known by a contract. -/
import Derived.Test.YtgpeieohdelniaaGreatDoorShEnv
namespace Go.Am.Sh
open Go Go.RowKit Go.Am Go.Proofs
set_option maxRecDepth 100000

theorem callS1 {W0 : World} (htab : Tab W0) (n : Nat) : CallS W0 P (acall adraw E1 P n) :=
  acall_sound (adraw_sound Tryz.laysJoin.mixed) ⟨fun f i h => fn0_ok f i h, fun f g h => ext0_ok htab f g h⟩ n
theorem awake1 : (acall adraw E1 P 20 7 [] h00).map (·.1) = some (.bool true) := by kernel_rfl
def xAwake : AFn := fun args h => match args with
  | [] => some (.bool true, h)
  | _ => none
theorem xAwake_sound {W0 : World} (htab : Tab W0) : ExtS W0 P 7 xAwake := by
  intro args h v h' e
  unfold xAwake at e
  split at e
  · simp only [Option.some.injEq, Prod.mk.injEq] at e
    obtain ⟨rfl, rfl⟩ := e
    refine ⟨Nat.le_refl _, fun α m B U M w cargs C hN ha => ?_⟩
    have hc : cargs = #[] := by have := ha.1; simpa using this.symm
    subst hc
    refine CallOut.of_calls (enters Tryz.func7 rfl (by decide) _ _) C (.bool _) ?_
    have htab' : Tab w := htab.stays (C.old.below.mono C.old.size)
    cases hh : acall adraw E1 P 20 7 [] h00 with
    | none => have := awake1; rw [hh] at this; simp at this
    | some r =>
      obtain ⟨u, h2⟩ := r
      have := awake1
      rw [hh] at this
      simp only [Option.map_some, Option.some.injEq] at this
      subst this
      exact calls_flat (callS1 htab' 20) hh (by simp) rfl Tryz.func7 rfl (by decide)
  · simp at e

noncomputable def ext1 (f : FuncId) : Option AFn := match f with
  | 7 => some xAwake
  | f => ext0 f
theorem ext1_ok {W0 : World} (htab : Tab W0) : ∀ f g, ext1 f = some g → ExtS W0 Tryz.prog f g := by
  intro f g h
  unfold ext1 at h
  split at h
  · obtain rfl := Option.some.inj h; exact xAwake_sound htab
  · exact ext0_ok htab _ _ h
noncomputable def E : Env := ⟨fn0, ext1⟩
end Go.Am.Sh
