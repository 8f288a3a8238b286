/- Shell: numbers as texts. -/
import Derived.Test.YtgpeieohdelniaaGreatDoorShUse
import Derived.Test.YtgpeieohdelniaaGreatDoorAmUse
import Derived.Lib.ItoaLen
namespace Go.Am.Sh
open Go Go.RowKit Go.Am Go.Proofs
set_option maxRecDepth 100000

theorem X43 (n : Nat) (x : Int) (h : St) (hx : in64 x) : acall adraw E P (n + 1) 43 [.int .i64 x] h = some (.string (bs (Lib.itoa x)), h) := by
  have : acall adraw E P (n + 1) 43 [.int .i64 x] h = xItoa [.int .i64 x] h := by kernel_rfl
  rw [this]
  have h1 : inI64 x = true := by simp only [inI64, Bool.and_eq_true, decide_eq_true_eq]; exact hx
  show bcond (inI64 x) _ none = _
  rw [h1]; rfl

theorem C34 (n : Nat) (x : Int) (h : St) (hx : in64 x) : acall adraw E P (n + 2) 34 [.int .i64 x] h = some (.string (bs (Lib.itoa x)), h) := by
  rw [F34_eq, X43 _ _ _ hx]; rfl

theorem C36 (n : Nat) (k v : Int) (h : St) (hk : in64 k) (hv : in64 v) : acall adraw E P (n + 3) 36 [.int .i64 k, .int .i64 v] h = some (.string (bs (pairL k v)), h) := by
  have := itoa_len hk; have := itoa_len hv
  rw [F36_eq, C34 _ _ _ hk]
  simp only [obind_some, vStr_str]
  rw [show (⟨#[58]⟩ : ByteArray) = bs [58] from rfl, scat_bs (by simp; omega)]
  simp only [obind_some]
  rw [C34 _ _ _ hv]
  simp only [obind_some, vStr_str]
  rw [scat_bs (by simp; omega)]
  simp [obind_some, pairL]
theorem C35 (n : Nat) (b : Bool) (h : St) : acall adraw E P (n + 1) 35 [.bool b] h = some (.string (bs (if b then [121, 101, 115] else [110, 111])), h) := by
  rw [F35_eq]; cases b <;> rfl

/-! the reference's numbers -/
/-- The digits of what is left; none of nothing. -/
def preL (u : Nat) : List UInt8 := if u = 0 then [] else Lib.decDigits u
theorem preL_step {u : Nat} (h : u ≠ 0) : preL u = preL (u / 10) ++ [UInt8.ofNat (48 + u % 10)] := by
  unfold preL
  rw [if_neg h]
  by_cases h10 : u < 10
  · rw [Lib.decDigits, dif_pos h10, if_pos (by omega), Nat.mod_eq_of_lt h10]; rfl
  · rw [Lib.decDigits, dif_neg h10, if_neg (by omega)]
theorem natAbs_tdiv (x : Int) : (x.tdiv 10).natAbs = x.natAbs / 10 := by rw [Int.natAbs_tdiv]; rfl

theorem L38_run (n : Nat) (x0 : Int) : ∀ (m f : Nat) (s : List UInt8) (x : Int) (d : Nat → Value) (h : St), m < f → Wf h → in64 x → x.natAbs < 10 ^ m → s.length + m ≤ 100 →
    ∃ d' h', L38_0 n f x0 (bs s) x d h = A38_1 n x0 (bs (preL x.natAbs ++ s)) d' h' ∧ Grown h h' := by
  intro m
  induction m with
  | zero =>
    intro f s x d h hf w hx hm _
    have : x = 0 := by simp at hm; omega
    subst this
    obtain ⟨f, rfl⟩ : ∃ g, f = g + 1 := ⟨f - 1, by omega⟩
    rw [L38_0_eq]
    exact ⟨_, h, rfl, Grown.refl h⟩
  | succ m ih =>
    intro f s x d h hf w hx hm hs
    obtain ⟨f, rfl⟩ : ∃ g, f = g + 1 := ⟨f - 1, by omega⟩
    rw [L38_0_eq]
    by_cases h0 : x = 0
    · subst h0; exact ⟨_, h, rfl, Grown.refl h⟩
    · have hne : bnot (ieq x 0) = true := by simp [bnot, ieq, h0]
      rw [bcond_pos hne, wrem_in (by decide)]
      simp only [obind_some]
      have hu : x.natAbs ≠ 0 := by omega
      have hq : (x.tdiv 10).natAbs < 10 ^ m := by
        rw [natAbs_tdiv]; rw [Nat.pow_succ] at hm; omega
      have hq64 : in64 (x.tdiv 10) := by
        have := natAbs_tdiv x
        unfold in64 at hx ⊢
        omega
      have hdig : x.natAbs % 10 < 10 := Nat.mod_lt _ (by decide)
      have key : ∀ (b : Int), b = 48 + (x.natAbs % 10 : Nat) → ∀ (d : Nat → Value) (h2 : St), Grown h h2 →
          ∃ d' h', L38_0 n f x0 (bs ([UInt8.ofNat b.toNat] ++ s)) (x.tdiv 10) d h2 = A38_1 n x0 (bs (preL x.natAbs ++ s)) d' h' ∧ Grown h h' := fun b hb d h2 g => by
        obtain ⟨d', h', e, g'⟩ := ih f ([UInt8.ofNat b.toNat] ++ s) (x.tdiv 10) d h2 (by omega) (g.wf w) hq64 hq (by simp; omega)
        refine ⟨d', h', ?_, g.trans g'⟩
        rw [e, natAbs_tdiv, preL_step hu, List.append_assoc, hb]
        have : (48 + ((x.natAbs % 10 : Nat) : Int)).toNat = 48 + x.natAbs % 10 := by omega
        rw [this]
      by_cases hneg : x.tmod 10 < 0
      · have hd : wsub .i64 0 (x.tmod 10) = ((x.natAbs % 10 : Nat) : Int) := by
          have h1 : (x.tmod 10).natAbs = x.natAbs % 10 := by rw [Int.natAbs_tmod]; rfl
          have h2 : 0 - x.tmod 10 = ((x.natAbs % 10 : Nat) : Int) := by omega
          rw [wsub_in (by rw [h2]; unfold in64; omega), h2]
        have hb : wconv .u8 (wadd .i64 48 (wsub .i64 0 (x.tmod 10))) = 48 + ((x.natAbs % 10 : Nat) : Int) := by
          rw [hd, wadd_in (by unfold in64; omega), wconv8 (by omega) (by omega)]
        rw [bcond_pos (by simp [ilt, hneg]), sbytes_one w]
        simp only [obind_some]
        rw [scat_bs (by simp; omega)]
        simp only [obind_some]
        rw [wquo_in (by decide) hq64]
        simp only [obind_some]
        exact key _ hb _ _ (Grown.new h _)
      · have hd : x.tmod 10 = ((x.natAbs % 10 : Nat) : Int) := by
          have h1 : (x.tmod 10).natAbs = x.natAbs % 10 := by rw [Int.natAbs_tmod]; rfl
          omega
        have hb : wconv .u8 (wadd .i64 48 (x.tmod 10)) = 48 + ((x.natAbs % 10 : Nat) : Int) := by
          rw [hd, wadd_in (by unfold in64; omega), wconv8 (by omega) (by omega)]
        rw [bcond_neg (by simp [ilt, hneg]), sbytes_one w]
        simp only [obind_some]
        rw [scat_bs (by simp; omega)]
        simp only [obind_some]
        rw [wquo_in (by decide) hq64]
        simp only [obind_some]
        exact key _ hb _ _ (Grown.new h _)

theorem C38 (n : Nat) (x : Int) (h : St) (w : Wf h) (hx : in64 x) : ∃ h', acall adraw E P (n + 22) 38 [.int .i64 x] h = some (.string (bs (Lib.itoa x)), h') ∧ Grown h h' := by
  rw [F38_eq]
  by_cases h0 : x = 0
  · subst h0
    have h48 : Lib.itoa 0 = [48] := by unfold Lib.itoa; rw [if_neg (by omega), Lib.decDigits, dif_pos (by simp)]; rfl
    exact ⟨h, by rw [h48]; rfl, Grown.refl h⟩
  · rw [bcond_neg (by simp [ieq, h0])]
    obtain ⟨d', h', e, g⟩ := L38_run (n + 21) x 20 (n + 21) [] x _ h (by omega) w hx (show x.natAbs < 10 ^ 20 by unfold in64 at hx; omega) (by simp)
    refine ⟨h', ?_, g⟩
    rw [show (⟨#[]⟩ : ByteArray) = bs [] from rfl, e, A38_1_eq]
    have hp : preL x.natAbs = Lib.decDigits x.natAbs := by unfold preL; rw [if_neg (by omega)]
    have hl := itoa_len hx
    rw [hp, List.append_nil]
    unfold Lib.itoa at hl ⊢
    by_cases hneg : x < 0
    · rw [if_pos hneg] at hl ⊢
      rw [bcond_pos (by simp [ilt, hneg]), show (⟨#[45]⟩ : ByteArray) = bs [45] from rfl, scat_bs (by simp at hl ⊢; omega)]
      rfl
    · rw [if_neg hneg, bcond_neg (by simp [ilt, hneg]), show x.toNat = x.natAbs by omega]
theorem C39 (n : Nat) (k v : Int) (h : St) (w : Wf h) (hk : in64 k) (hv : in64 v) : ∃ h', acall adraw E P (n + 23) 39 [.agg #[.int .i64 k, .int .i64 v]] h = some (.string (bs (pairL k v)), h') ∧ Grown h h' := by
  have := itoa_len hk; have := itoa_len hv
  obtain ⟨h1, e1, g1⟩ := C38 n k h w hk
  obtain ⟨h2, e2, g2⟩ := C38 n v h1 (g1.wf w) hv
  refine ⟨h2, ?_, g1.trans g2⟩
  rw [F39_eq, e1]
  simp only [obind_some, vStr_str]
  rw [show (⟨#[58]⟩ : ByteArray) = bs [58] from rfl, scat_bs (by simp; omega)]
  simp only [obind_some]
  rw [e2]
  simp only [obind_some, vStr_str]
  rw [scat_bs (by simp; omega)]
  simp [obind_some, pairL]
end Go.Am.Sh
