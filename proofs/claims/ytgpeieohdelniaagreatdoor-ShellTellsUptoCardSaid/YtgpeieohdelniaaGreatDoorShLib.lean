/- Shell: strconv.Itoa and strings.Join by the library's contracts. -/
import Derived.Test.YtgpeieohdelniaaGreatDoorAmExt
import Derived.Lib.SmallJoins
import Derived.Test.YtgpeieohdelniaaGreatDoorShelf
namespace Go.Am.Sh
open Go Go.RowKit Go.Am Go.Proofs
set_option maxRecDepth 100000

theorem below_grown (w : World) (q : Nat) (os : Array Obj) : Below w.heap.size w (Sort.grow (w.drewN q) os) := by
  refine ⟨rfl, rfl, rfl, ?_, fun i hi => ?_⟩
  · show w.heap.size ≤ (w.heap ++ os).size
    rw [Array.size_append]; omega
  · show (w.heap ++ os)[i]? = _
    rw [Array.getElem?_append_left hi]
/-- What a function known by a contract must be. -/
def ExtS (W0 : World) (P : Program) (f : FuncId) (g : AFn) : Prop := ∀ args h v h', g args h = some (v, h') → h.next ≤ h'.next ∧
    ∀ (α : Corr) (m : Mem) (B U M : Nat) (w : World) (cargs : Array Value), RRel W0 α m B U M h w → h'.next ≤ U → LRel α m args cargs.toList → CallOut W0 P f cargs α m B U M h w v h'

def inI64 (n : Int) : Bool := decide (-9223372036854775808 ≤ n) && decide (n ≤ 9223372036854775807)
def xItoa : AFn := fun args h => match args with
  | [.int .i64 n] => bcond (inI64 n) (some (.string ⟨(Lib.itoa n).toArray⟩, h)) none
  | _ => none

theorem pow10_global : Tryz.prog.globalNamed "internal/strconv.uint64pow10" = some 1 := by kernel_rfl

theorem xItoa_sound {W0 : World} (htab : Lib.TabIs Tryz.prog W0 "internal/strconv.uint64pow10" .u64 Lib.pow10Tab) : ExtS W0 Tryz.prog 43 xItoa := by
  intro args h v h' e
  unfold xItoa at e
  split at e
  · rename_i n
    rw [bcond_eq] at e
    split at e
    · rename_i hn
      simp only [Option.some.injEq, Prod.mk.injEq] at e
      obtain ⟨rfl, rfl⟩ := e
      simp only [inI64, Bool.and_eq_true, decide_eq_true_eq] at hn
      refine ⟨Nat.le_refl _, fun α m B U M w cargs C hN ha => ?_⟩
      obtain ⟨c, rfl, hc⟩ := ha.one_inv
      have hci : c = .int .i64 n := hc.int_inv
      subst hci
      have ht : Lib.TabIs Tryz.prog w "internal/strconv.uint64pow10" .u64 Lib.pow10Tab := Joins.tab_stays pow10_global htab C.old.below C.old.size
      refine CallOut.of_calls (enters Tryz.func43 rfl (by decide) _ _) C (.string _) ?_
      exact (Any.strconv_Itoa Tryz.laysItoa n hn.1 hn.2 w ht).mono fun e w' ⟨he, k, os, hw⟩ => ⟨he, by rw [hw]; exact below_grown _ _ _⟩
    · simp at e
  · simp at e

/-! strings.Join -/
theorem extra : Builder.Extra Tryz.prog Tryz.laysJoin_ren := {
  sizeBuilder := by kernel_rfl
  liesBuilder := by kernel_rfl
  t5 := Tryz.underlying5
  a5 := Tryz.isAgg5
  z5 := Tryz.sizeOf5
  v5 := Tryz.zeroValue5
  infoByte := by kernel_rfl
  cellsByte := by kernel_rfl
  sizeByte := by kernel_rfl
  neB5 := by decide }

def strs : List Value → Option (List ByteArray)
  | [] => some []
  | .string s :: r => (strs r).bind fun l => some (s :: l)
  | _ => none
def joinB (xs : List ByteArray) (sep : ByteArray) : ByteArray := ⟨(Lib.join (xs.map fun x => x.data.toList) sep.data.toList).toArray⟩
def joinOk (xs : List ByteArray) (sep : ByteArray) : Bool := decide (0 < xs.length) && decide (xs.length ≤ 140737488355328) && decide ((Lib.join (xs.map fun x => x.data.toList) sep.data.toList).length ≤ 140737488355328)
def xJoin : AFn := fun args h => match args with
  | [.slice (some a) len g, .string sep] => match h.get a.block with
    | some (.arr _ e g' c) => if g' = g ∧ e = 1 ∧ a.spot = none ∧ a.off + len ≤ c.length then
        obind (strs ((c.drop a.off).take len)) fun xs => bcond (joinOk xs sep) (some (.string (joinB xs sep), h)) none
      else none
    | _ => none
  | _ => none

theorem strs_eq : ∀ (c : List Value) (xs : List ByteArray), strs c = some xs → c = xs.map Value.string := by
  intro c
  induction c with
  | nil => intro xs k; simp [strs] at k; subst k; rfl
  | cons v c ih =>
    intro xs k
    unfold strs at k
    split at k
    · rename_i he; simp at he
    · rename_i s r he
      simp only [List.cons.injEq] at he
      obtain ⟨rfl, rfl⟩ := he
      obtain ⟨l, hl, k⟩ := Option.bind_eq_some_iff.1 k
      simp only [Option.some.injEq] at k
      subst k
      rw [ih l hl]; rfl
    · simp at k

theorem xJoin_sound {W0 : World} : ExtS W0 Tryz.prog 44 xJoin := by
  intro args h v h' e
  unfold xJoin at e
  split at e
  · rename_i a len g sep
    split at e
    · rename_i ro e' g' c hg
      split at e
      · rename_i hc
        obtain ⟨rfl, rfl, hsp, hlen⟩ := hc
        obtain ⟨xs, hxs, e⟩ := Option.bind_eq_some_iff.1 e
        rw [bcond_eq] at e
        split at e
        · rename_i hj
          simp only [Option.some.injEq, Prod.mk.injEq] at e
          obtain ⟨rfl, rfl⟩ := e
          simp only [joinOk, Bool.and_eq_true, decide_eq_true_eq] at hj
          obtain ⟨⟨j1, j2⟩, j3⟩ := hj
          have hxl := strs_eq _ _ hxs
          have hxlen : xs.length = len := by have := congrArg List.length hxl; simp at this; omega
          refine ⟨Nat.le_refl _, fun α m B U M w cargs C hN ha => ?_⟩
          obtain ⟨c1, c2, rfl, h1, h2⟩ := ha.two_inv
          have hc2 : c2 = .string sep := by cases h2; rfl
          subst hc2
          obtain ⟨blk, off, spot⟩ := a
          simp only at hsp hlen hxs hxl hg h1
          subst hsp
          have hm := C.sub _ _ hg
          obtain ⟨cap, rfl, hcap, _, hlt, hcell⟩ := C.heap.row hm h1 (by omega)
          refine CallOut.of_calls (enters Tryz.func44 rfl (by decide) _ _) C (.string _) ?_
          have hrow : ∀ (j : Nat) (x : ByteArray), xs[j]? = some x → w.cell? ⟨α.blk blk, α.off blk + off + j, none⟩ = some (.string x) := fun j x hx => by
            have hjl : j < len := by rw [← hxlen]; exact (List.getElem?_eq_some_iff.1 hx).1
            have hcj : c[off + j]? = some (.string x) := by
              have : ((c.drop off).take len)[j]? = some (.string x) := by rw [hxl, List.getElem?_map, hx]; rfl
              rw [List.getElem?_take, if_pos hjl, List.getElem?_drop] at this; exact this
            obtain ⟨cw, hcw, hR⟩ := hcell j _ (by omega) hcj
            have : cw = .string x := by cases hR; rfl
            rw [hcw, this]
          rw [← hxlen]
          exact Any.strings_Join Tryz.laysJoin extra (α.blk blk) (α.off blk + off) cap xs sep w hrow hlt j2 (by omega) j3
        · simp at e
      · simp at e
    · simp at e
  · simp at e

end Go.Am.Sh
