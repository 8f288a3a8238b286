/- Shell: what is known by contracts. -/
import Derived.Test.YtgpeieohdelniaaGreatDoorShPairs
namespace Go.Am.Sh
open Go Go.RowKit Go.Am Go.Proofs
noncomputable def ext0 (f : FuncId) : Option AFn := match f with
  | 43 => some xItoa
  | 44 => some xJoin
  | 37 => some xPairs
  | 8 => some xParse0
  | 222 => some xStoreP
  | 224 => some xStoreP
  | 242 => some xStore
  | 243 => some xStore
  | _ => none
theorem ext0_ok {W0 : World} (htab : Lib.TabIs Tryz.prog W0 "internal/strconv.uint64pow10" .u64 Lib.pow10Tab) : ∀ f g, ext0 f = some g → ExtS W0 Tryz.prog f g := by
  intro f g h
  unfold ext0 at h
  split at h
  · obtain rfl := Option.some.inj h; exact xItoa_sound htab
  · obtain rfl := Option.some.inj h; exact xJoin_sound
  · obtain rfl := Option.some.inj h; exact xPairs_sound htab
  · obtain rfl := Option.some.inj h; exact xParse0_sound
  · obtain rfl := Option.some.inj h; exact storeP222
  · obtain rfl := Option.some.inj h; exact storeP224
  · obtain rfl := Option.some.inj h; exact storeP
  · obtain rfl := Option.some.inj h; exact store64
  · simp at h
end Go.Am.Sh
