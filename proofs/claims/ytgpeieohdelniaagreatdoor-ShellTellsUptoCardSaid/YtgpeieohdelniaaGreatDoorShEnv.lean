/- Shell: the functions that are known by their code (written by GenShell.lean). -/
import Derived.Test.YtgpeieohdelniaaGreatDoorShLib4
import Derived.Test.YtgpeieohdelniaaGreatDoorAmSeg
import Derived.KernelRfl
namespace Go.Am.Sh
open Go Go.RowKit Go.Am Go.Proofs
set_option maxRecDepth 100000
noncomputable abbrev P : Program := Tryz.prog
noncomputable def fi4 : FInfo := ⟨Tryz.f4, [1], []⟩
noncomputable def fi7 : FInfo := ⟨Tryz.f7, [], []⟩
noncomputable def fi11 : FInfo := ⟨Tryz.f11, [1], [7, 14, 15, 19, 26, 31, 32, 37, 38, 47, 48, 59, 60, 62, 63, 68, 69]⟩
noncomputable def fi12 : FInfo := ⟨Tryz.f12, [1, 6], [7, 12, 13, 17, 24, 28, 29, 35, 36, 45, 46, 57, 58, 60, 61, 66, 67]⟩
noncomputable def fi18 : FInfo := ⟨Tryz.f18, [1, 4], [12, 19, 22, 24, 27, 29, 33]⟩
noncomputable def fi19 : FInfo := ⟨Tryz.f19, [1], [6, 16, 24, 30, 38]⟩
noncomputable def fi22 : FInfo := ⟨Tryz.f22, [3, 5, 9, 15], [29, 41, 54, 63, 74, 76]⟩
noncomputable def fi34 : FInfo := ⟨Tryz.f34, [], []⟩
noncomputable def fi35 : FInfo := ⟨Tryz.f35, [], []⟩
noncomputable def fi36 : FInfo := ⟨Tryz.f36, [], []⟩
noncomputable def fi38 : FInfo := ⟨Tryz.f38, [], []⟩
noncomputable def fi39 : FInfo := ⟨Tryz.f39, [1], [3, 7]⟩
noncomputable def fi42 : FInfo := ⟨Tryz.f42, [], []⟩
noncomputable def fi45 : FInfo := ⟨Tryz.f45, [], []⟩
noncomputable def fi48 : FInfo := ⟨Tryz.f48, [2, 4], []⟩
noncomputable def fi62 : FInfo := ⟨Tryz.f62, [1, 3], [6, 8, 16]⟩
noncomputable def fi63 : FInfo := ⟨Tryz.f63, [6, 11], [38, 40]⟩
noncomputable def fi72 : FInfo := ⟨Tryz.f72, [8], [21, 25]⟩
noncomputable def fi73 : FInfo := ⟨Tryz.f73, [6], [17, 19]⟩
noncomputable def fi74 : FInfo := ⟨Tryz.f74, [6, 11], []⟩
noncomputable def fi76 : FInfo := ⟨Tryz.f76, [], []⟩
noncomputable def fi92 : FInfo := ⟨Tryz.f92, [], []⟩
noncomputable def fi94 : FInfo := ⟨Tryz.f94, [], []⟩
noncomputable def fi111 : FInfo := ⟨Tryz.f111, [], []⟩
noncomputable def fi134 : FInfo := ⟨Tryz.f134, [], []⟩
noncomputable def fi135 : FInfo := ⟨Tryz.f135, [], []⟩
noncomputable def fi158 : FInfo := ⟨Tryz.f158, [2], []⟩
noncomputable def fi199 : FInfo := ⟨Tryz.f199, [], []⟩
noncomputable def fi200 : FInfo := ⟨Tryz.f200, [], []⟩
noncomputable def fi201 : FInfo := ⟨Tryz.f201, [], []⟩
noncomputable def fi221 : FInfo := ⟨Tryz.f221, [], []⟩
noncomputable def fi223 : FInfo := ⟨Tryz.f223, [], []⟩
noncomputable def fn0 (f : FuncId) : Option FInfo := match f with
  | 4 => some fi4
  | 7 => some fi7
  | 11 => some fi11
  | 12 => some fi12
  | 18 => some fi18
  | 19 => some fi19
  | 22 => some fi22
  | 34 => some fi34
  | 35 => some fi35
  | 36 => some fi36
  | 38 => some fi38
  | 39 => some fi39
  | 42 => some fi42
  | 45 => some fi45
  | 48 => some fi48
  | 62 => some fi62
  | 63 => some fi63
  | 72 => some fi72
  | 73 => some fi73
  | 74 => some fi74
  | 76 => some fi76
  | 92 => some fi92
  | 94 => some fi94
  | 111 => some fi111
  | 134 => some fi134
  | 135 => some fi135
  | 158 => some fi158
  | 199 => some fi199
  | 200 => some fi200
  | 201 => some fi201
  | 221 => some fi221
  | 223 => some fi223
  | _ => none
theorem fn0_ok : ∀ f i, fn0 f = some i → P.funcs[f]? = some i.fn ∧ okFunc (drawOk P) i = true := by
  intro f i h
  unfold fn0 at h
  split at h
  · obtain rfl := Option.some.inj h; exact ⟨Tryz.func4, by kernel_rfl⟩
  · obtain rfl := Option.some.inj h; exact ⟨Tryz.func7, by kernel_rfl⟩
  · obtain rfl := Option.some.inj h; exact ⟨Tryz.func11, by kernel_rfl⟩
  · obtain rfl := Option.some.inj h; exact ⟨Tryz.func12, by kernel_rfl⟩
  · obtain rfl := Option.some.inj h; exact ⟨Tryz.func18, by kernel_rfl⟩
  · obtain rfl := Option.some.inj h; exact ⟨Tryz.func19, by kernel_rfl⟩
  · obtain rfl := Option.some.inj h; exact ⟨Tryz.func22, by kernel_rfl⟩
  · obtain rfl := Option.some.inj h; exact ⟨Tryz.func34, by kernel_rfl⟩
  · obtain rfl := Option.some.inj h; exact ⟨Tryz.func35, by kernel_rfl⟩
  · obtain rfl := Option.some.inj h; exact ⟨Tryz.func36, by kernel_rfl⟩
  · obtain rfl := Option.some.inj h; exact ⟨Tryz.func38, by kernel_rfl⟩
  · obtain rfl := Option.some.inj h; exact ⟨Tryz.func39, by kernel_rfl⟩
  · obtain rfl := Option.some.inj h; exact ⟨Tryz.func42, by kernel_rfl⟩
  · obtain rfl := Option.some.inj h; exact ⟨Tryz.func45, by kernel_rfl⟩
  · obtain rfl := Option.some.inj h; exact ⟨Tryz.func48, by kernel_rfl⟩
  · obtain rfl := Option.some.inj h; exact ⟨Tryz.func62, by kernel_rfl⟩
  · obtain rfl := Option.some.inj h; exact ⟨Tryz.func63, by kernel_rfl⟩
  · obtain rfl := Option.some.inj h; exact ⟨Tryz.func72, by kernel_rfl⟩
  · obtain rfl := Option.some.inj h; exact ⟨Tryz.func73, by kernel_rfl⟩
  · obtain rfl := Option.some.inj h; exact ⟨Tryz.func74, by kernel_rfl⟩
  · obtain rfl := Option.some.inj h; exact ⟨Tryz.func76, by kernel_rfl⟩
  · obtain rfl := Option.some.inj h; exact ⟨Tryz.func92, by kernel_rfl⟩
  · obtain rfl := Option.some.inj h; exact ⟨Tryz.func94, by kernel_rfl⟩
  · obtain rfl := Option.some.inj h; exact ⟨Tryz.func111, by kernel_rfl⟩
  · obtain rfl := Option.some.inj h; exact ⟨Tryz.func134, by kernel_rfl⟩
  · obtain rfl := Option.some.inj h; exact ⟨Tryz.func135, by kernel_rfl⟩
  · obtain rfl := Option.some.inj h; exact ⟨Tryz.func158, by kernel_rfl⟩
  · obtain rfl := Option.some.inj h; exact ⟨Tryz.func199, by kernel_rfl⟩
  · obtain rfl := Option.some.inj h; exact ⟨Tryz.func200, by kernel_rfl⟩
  · obtain rfl := Option.some.inj h; exact ⟨Tryz.func201, by kernel_rfl⟩
  · obtain rfl := Option.some.inj h; exact ⟨Tryz.func221, by kernel_rfl⟩
  · obtain rfl := Option.some.inj h; exact ⟨Tryz.func223, by kernel_rfl⟩
  · simp at h
noncomputable def E1 : Env := ⟨fn0, ext0⟩
end Go.Am.Sh
