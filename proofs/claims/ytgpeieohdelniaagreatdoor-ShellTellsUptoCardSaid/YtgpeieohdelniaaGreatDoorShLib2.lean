/- Shell: Parse of the empty text as a function known by a contract. -/
import Derived.Test.YtgpeieohdelniaaGreatDoorShLib
import Derived.Test.YtgpeieohdelniaaGreatDoorShParse0
namespace Go.Am.Sh
open Go Go.RowKit Go.Am Go.Proofs
set_option maxRecDepth 100000

def xParse0 : AFn := fun args h => match args with
  | [.string s] => match s.data.toList with
    | [] => some (.tuple #[.agg #[.slice none 0 0, .slice none 0 0, .slice none 0 0], .int .i64 0, .int .i64 0], h)
    | _ :: _ => none
  | _ => none

theorem xParse0_sound {W0 : World} : ExtS W0 Tryz.prog 8 xParse0 := by
  intro args h v h' e
  unfold xParse0 at e
  split at e
  · rename_i s
    split at e
    · rename_i hs
      simp only [Option.some.injEq, Prod.mk.injEq] at e
      obtain ⟨rfl, rfl⟩ := e
      refine ⟨Nat.le_refl _, fun α m B U M w cargs C hN ha => ?_⟩
      obtain ⟨c, rfl, hc⟩ := ha.one_inv
      have hci : c = .string s := by cases hc; rfl
      subst hci
      have hse : s = ⟨#[]⟩ := by
        obtain ⟨d⟩ := s
        have : d = #[] := by simpa using hs
        rw [this]
      subst hse
      exact CallOut.of_calls (enters Tryz.func8 rfl (by decide) _ _) C (flat_rel _ _ 4 _ rfl) (parse_none w)
    · simp at e
  · simp at e
end Go.Am.Sh
