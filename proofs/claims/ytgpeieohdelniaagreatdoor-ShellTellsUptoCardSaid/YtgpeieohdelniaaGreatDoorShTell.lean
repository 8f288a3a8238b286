/- Shell: every event's line. -/
import Derived.Test.YtgpeieohdelniaaGreatDoorShOp
namespace Go.Am.Sh
open Go Go.RowKit Go.Am Go.Proofs
set_option maxRecDepth 100000

theorem X7 (n : Nat) (h : St) : acall adraw E P (n + 1) 7 [] h = some (.bool true, h) := by kernel_rfl

/-- The cells of pairs. -/
def pcells (ps : List (Int × Int)) : List Value := ps.flatMap fun p => [.int .i64 p.1, .int .i64 p.2]
theorem pairsOf_cells (ps : List (Int × Int)) : pairsOf (pcells ps) = some ps := by
  induction ps with
  | nil => rfl
  | cons p ps ih =>
    show (pairsOf (pcells ps)).bind _ = _
    rw [ih]; rfl
theorem pcells_length (ps : List (Int × Int)) : (pcells ps).length = ps.length * 2 := by
  induction ps with
  | nil => rfl
  | cons p ps ih => simp only [pcells, List.flatMap_cons, List.length_append] at ih ⊢; rw [ih]; simp; omega
theorem pcells_at {ps : List (Int × Int)} {j : Nat} {p : Int × Int} (h : ps[j]? = some p) : ((pcells ps).drop (j * 2)).take 2 = [.int .i64 p.1, .int .i64 p.2] := by
  induction ps generalizing j with
  | nil => simp at h
  | cons q ps ih =>
    cases j with
    | zero => simp at h; subst h; rfl
    | succ j =>
      rw [show (j + 1) * 2 = j * 2 + 2 by omega]
      exact ih (by simpa using h)
theorem pairsL_len {ps : List (Int × Int)} (hin : ∀ p ∈ ps, in64 p.1 ∧ in64 p.2) : (pairsL ps).length ≤ 44 * ps.length := by
  induction ps with
  | nil => simp [pairsL]
  | cons p ps ih =>
    have h1 := ih fun q hq => hin q (List.mem_cons_of_mem _ hq)
    obtain ⟨i1, i2⟩ := hin p (by simp)
    have h2 := pairL_len i1 i2
    simp only [pairsL, List.map_cons, List.flatten_cons, List.length_append, List.length_cons] at h1 ⊢
    omega
theorem X37 (n : Nat) {h : St} {a : Option Addr} {l g : Nat} {ps : List (Int × Int)} (s : Shows h 2 a l g (pcells ps)) (hin : ∀ p ∈ ps, in64 p.1 ∧ in64 p.2) (hl : ps.length ≤ 2 ^ 40) :
    acall adraw E P (n + 1) 37 [.slice a l g] h = some (.string (bs (pairsL ps)), h) := by
  have e : acall adraw E P (n + 1) 37 [.slice a l g] h = xPairs [.slice a l g] h := by kernel_rfl
  rw [e]
  have hlen := s.length
  rw [pcells_length] at hlen
  have hl2 : ps.length = l := by omega
  have hp := pairsL_len hin
  have hok : pairsOk ps = true := by
    simp only [pairsOk, Bool.and_eq_true, decide_eq_true_eq, List.all_eq_true]
    refine ⟨⟨fun p hp => ?_, by omega⟩, by omega⟩
    simp only [inI64, Bool.and_eq_true, decide_eq_true_eq]
    exact hin p hp
  simp only [xPairs, s.row, obind_some, pairsOf_cells]
  rw [bcond_pos (by simp [hl2, hok])]

/-- A kind's word where it has none. -/
def kindL (k : Int) : List UInt8 := [107, 105, 110, 100, 32] ++ Lib.itoa k
def tailL (k rk rv : Int) (ps : List (Int × Int)) : List UInt8 :=
  if k = 1 ∨ k = 2 ∨ k = 3 ∨ k = 4 then 32 :: Lib.itoa rv else if k = 5 ∨ k = 6 ∨ k = 7 ∨ k = 8 then 32 :: pairL rk rv else pairsL ps
def yesL (b : Bool) : List UInt8 := if b then [121, 101, 115] else [110, 111]
def tellL (t : Int) (ret : Bool) (k a b c : Int) (ok : Bool) (rk rv : Int) (ps : List (Int × Int)) : List UInt8 :=
  116 :: Lib.itoa t ++ 32 :: (opL k a b c).getD (kindL k) ++ (if ret then [32, 45, 62, 32] ++ yesL ok ++ tailL k rk rv ps else [])
theorem opL_len {k a b c : Int} (ha : in64 a) (hb : in64 b) (hc : in64 c) {s : List UInt8} (h : opL k a b c = some s) : s.length ≤ 52 ∧ s ≠ [] := by
  have la := itoa_len ha; have lb := itoa_len hb; have lc := itoa_len hc
  unfold opL at h
  cases hf : formOf k with
  | none => rw [hf] at h; simp at h
  | some fm =>
    obtain ⟨f, m⟩ := fm
    obtain ⟨f1, f2, f3, f4⟩ := formOf_some hf
    rw [hf] at h
    simp only [Option.map_some, Option.some.injEq] at h
    subst h
    rcases f3 with rfl | rfl | rfl
    · exact ⟨by simp [opJ]; omega, by simpa [opJ] using f1⟩
    · exact ⟨by simp [opJ]; omega, by simp [opJ]⟩
    · refine ⟨?_, by simp [opJ]⟩
      by_cases h9 : k = 9
      · simp [opJ, h9]; omega
      · simp [opJ, h9]; omega

/-- The line's end, the program's. -/
noncomputable def tail11 (n : Nat) (k rk rv : Int) (a : Option Addr) (l g : Nat) (t : ByteArray) (h : St) : Option (Value × St) :=
 (bcond (ieq k 1)
 (obind (scat t ⟨#[32]⟩) fun t60 =>
 (obind (acall adraw E P n 34 [(.int .i64 rv)] h) fun k61 =>
 (obind (vStr k61.1) fun t62 =>
 (obind (scat t60 t62) fun t63 =>
 (some ((.string t63), k61.2))))))
 (bcond (ieq k 2)
 (obind (scat t ⟨#[32]⟩) fun t64 =>
 (obind (acall adraw E P n 34 [(.int .i64 rv)] h) fun k65 =>
 (obind (vStr k65.1) fun t66 =>
 (obind (scat t64 t66) fun t67 =>
 (some ((.string t67), k65.2))))))
 (bcond (ieq k 3)
 (obind (scat t ⟨#[32]⟩) fun t68 =>
 (obind (acall adraw E P n 34 [(.int .i64 rv)] h) fun k69 =>
 (obind (vStr k69.1) fun t70 =>
 (obind (scat t68 t70) fun t71 =>
 (some ((.string t71), k69.2))))))
 (bcond (ieq k 4)
 (obind (scat t ⟨#[32]⟩) fun t72 =>
 (obind (acall adraw E P n 34 [(.int .i64 rv)] h) fun k73 =>
 (obind (vStr k73.1) fun t74 =>
 (obind (scat t72 t74) fun t75 =>
 (some ((.string t75), k73.2))))))
 (bcond (ieq k 5)
 (obind (scat t ⟨#[32]⟩) fun t76 =>
 (obind (acall adraw E P n 36 [(.int .i64 rk), (.int .i64 rv)] h) fun k77 =>
 (obind (vStr k77.1) fun t78 =>
 (obind (scat t76 t78) fun t79 =>
 (some ((.string t79), k77.2))))))
 (bcond (ieq k 6)
 (obind (scat t ⟨#[32]⟩) fun t80 =>
 (obind (acall adraw E P n 36 [(.int .i64 rk), (.int .i64 rv)] h) fun k81 =>
 (obind (vStr k81.1) fun t82 =>
 (obind (scat t80 t82) fun t83 =>
 (some ((.string t83), k81.2))))))
 (bcond (ieq k 7)
 (obind (scat t ⟨#[32]⟩) fun t84 =>
 (obind (acall adraw E P n 36 [(.int .i64 rk), (.int .i64 rv)] h) fun k85 =>
 (obind (vStr k85.1) fun t86 =>
 (obind (scat t84 t86) fun t87 =>
 (some ((.string t87), k85.2))))))
 (bcond (ieq k 8)
 (obind (scat t ⟨#[32]⟩) fun t88 =>
 (obind (acall adraw E P n 36 [(.int .i64 rk), (.int .i64 rv)] h) fun k89 =>
 (obind (vStr k89.1) fun t90 =>
 (obind (scat t88 t90) fun t91 =>
 (some ((.string t91), k89.2))))))
 (obind (acall adraw E P n 37 [(.slice a l g)] h) fun k92 =>
 (obind (vStr k92.1) fun t93 =>
 (obind (scat t t93) fun t94 =>
 (some ((.string t94), k92.2))))))))))))) 
theorem C11 (n : Nat) (t : Int) (ret : Bool) (k a b c : Int) (ok : Bool) (rk rv : Int) {ad : Option Addr} {l g : Nat} {ps : List (Int × Int)} (h : St) (w : Wf h) (ht : in64 t) (hk : in64 k) (ha : in64 a) (hb : in64 b) (hc : in64 c) (hrk : in64 rk) (hrv : in64 rv)
    (s : Shows h 2 ad l g (pcells ps)) (hin : ∀ p ∈ ps, in64 p.1 ∧ in64 p.2) (hl : ps.length ≤ 2 ^ 40) :
    ∃ h', acall adraw E P (n + 12) 11 [.agg #[.int .i64 t, .bool ret, .int .i64 k, .int .i64 a, .int .i64 b, .int .i64 c, .bool ok, .int .i64 rk, .int .i64 rv, .slice ad l g]] h = some (.string (bs (tellL t ret k a b c ok rk rv ps)), h') ∧ Grown h h' := by
  have lt := itoa_len ht; have lk := itoa_len hk; have lrv := itoa_len hrv; have lp := pairL_len hrk hrv; have lps := pairsL_len hin
  obtain ⟨h1, e1, g1⟩ := C18 (n + 1) k a b c h w ha hb hc
  have s1 := s.grown w g1
  rw [F11_eq, e1]
  simp only [obind_some]
  rw [vTup_tup _ _ (by simp)]
  simp only [obind_some, List.getD_cons_zero, List.getD_cons_succ, vStr_str, vInt_int]
  have e35 := C35 (n + 10) ok h1
  have et := C34 (n + 9) t h1 ht
  -- the tail
  have tail : ∀ T : List UInt8, T.length ≤ 200 → tail11 (n + 11) k rk rv ad l g (bs T) h1 = some (.string (bs (T ++ tailL k rk rv ps)), h1) := by
    intro T hT
    unfold tail11
    rcases formOf_cases k with hk | ⟨k1, k2, k3, k4, k5, k6, k7, k8, k9⟩
    · rcases hk with rfl | rfl | rfl | rfl | rfl | rfl | rfl | rfl | rfl
      all_goals simp only [ieq_dec, Int.reduceEq, decide_true, decide_false, bcond_true, bcond_false, bs32]
      case inr.inr.inr.inr.inr.inr.inr.inr =>
        rw [X37 (n + 10) s1 hin hl]
        simp only [obind_some, vStr_str]
        rw [scat_bs (by omega)]
        simp [obind_some, tailL]
      all_goals rw [scat_bs (by simp; omega)]
      all_goals simp only [obind_some]
      all_goals first
        | rw [C34 _ rv h1 hrv]
        | rw [C36 _ rk rv h1 hrk hrv]
      all_goals simp only [obind_some, vStr_str]
      all_goals rw [scat_bs (by simp; omega)]
      all_goals simp [obind_some, tailL]
    · simp only [ieq_dec, k1, k2, k3, k4, k5, k6, k7, k8, decide_false, bcond_false]
      rw [X37 (n + 10) s1 hin hl]
      simp only [obind_some, vStr_str]
      rw [scat_bs (by omega)]
      simp [obind_some, tailL, k1, k2, k3, k4, k5, k6, k7, k8]
  have rest : ∀ W : List UInt8, W.length ≤ 100 → (opL k a b c).getD (kindL k) = W →
      (obind (scat ⟨#[116]⟩ (bs (Lib.itoa t))) fun t53 => obind (scat t53 ⟨#[32]⟩) fun t54 => obind (scat t54 (bs W)) fun t55 => bcond (bnot ret) (some (.string t55, h1))
        (obind (acall adraw E P (n + 11) 35 [.bool ok] h1) fun k56 => obind (vStr k56.1) fun t57 => obind (scat ⟨#[32, 45, 62, 32]⟩ t57) fun t58 => obind (scat t55 t58) fun t59 => tail11 (n + 11) k rk rv ad l g t59 k56.2)) =
      some (.string (bs (tellL t ret k a b c ok rk rv ps)), h1) := by
    intro W hW hWe
    rw [show (⟨#[116]⟩ : ByteArray) = bs [116] from rfl, scat_bs (by simp; omega)]
    simp only [obind_some, bs32]
    rw [scat_bs (by simp; omega)]
    simp only [obind_some]
    rw [scat_bs (by simp; omega)]
    simp only [obind_some]
    cases ret with
    | false => simp [bnot, bcond_true, tellL, hWe]
    | true =>
      rw [show bnot true = false from rfl, bcond_false, e35]
      simp only [obind_some, vStr_str]
      rw [show (⟨#[32, 45, 62, 32]⟩ : ByteArray) = bs [32, 45, 62, 32] from rfl, scat_bs (by cases ok <;> simp)]
      simp only [obind_some]
      rw [scat_bs (by cases ok <;> simp <;> omega)]
      simp only [obind_some]
      rw [tail _ (by cases ok <;> simp <;> omega)]
      simp [tellL, hWe, yesL]
  cases ho : opL k a b c with
  | none =>
    simp only [Option.isSome_none, Bool.false_eq_true, if_false]
    rw [show bnot (ieq (5 : Int) 0) = true from rfl, bcond_true, C34 (n + 9) k h1 hk]
    simp only [obind_some, vStr_str]
    rw [show (⟨#[107, 105, 110, 100, 32]⟩ : ByteArray) = bs [107, 105, 110, 100, 32] from rfl, scat_bs (by simp; omega)]
    simp only [obind_some]
    rw [et]
    simp only [obind_some, vStr_str]
    exact ⟨h1, rest (kindL k) (by simp [kindL]; omega) (by rw [ho]; rfl), g1⟩
  | some S =>
    obtain ⟨o1, o2⟩ := opL_len ha hb hc ho
    simp only [Option.isSome_some, if_true, Option.getD_some]
    rw [show bnot (ieq (0 : Int) 0) = false from rfl, bcond_false, et]
    simp only [obind_some, vStr_str]
    exact ⟨h1, rest S (by omega) (by rw [ho]; rfl), g1⟩

/-! the reference's -/
theorem L12_run (n : Nat) (hn : 30 ≤ n) (a : Option Addr) (l g : Nat) (ps : List (Int × Int)) (hl : ps.length = l) (hin : ∀ p ∈ ps, in64 p.1 ∧ in64 p.2) : ∀ (rest : List (Int × Int)) (j m : Nat) (T : List UInt8) (d : Nat → Value) (h : St),
    rest.length < m → ps.drop j = rest → Wf h → Shows h 2 a l g (pcells ps) → T.length + 44 * rest.length ≤ 2 ^ 60 → l ≤ 2 ^ 40 →
    ∃ h', L12_0 n m (bs T) a l g (l : Nat) (j : Nat) d h = some (.string (bs (T ++ pairsL rest)), h') ∧ Grown h h' := by
  intro rest
  induction rest with
  | nil =>
    intro j m T d h hm hd w s hT hll
    obtain ⟨m, rfl⟩ : ∃ k, m = k + 1 := ⟨m - 1, by simp at hm; omega⟩
    have : ps.length ≤ j := List.drop_eq_nil_iff.1 hd
    rw [L12_0_eq, bcond_neg (by simp [ilt]; omega), A12_1_eq]
    exact ⟨h, by simp [pairsL], Grown.refl h⟩
  | cons p rest ih =>
    intro j m T d h hm hd w s hT hll
    obtain ⟨m, rfl⟩ : ∃ k, m = k + 1 := ⟨m - 1, by simp at hm; omega⟩
    have hjl : j < ps.length := by
      rcases Nat.lt_or_ge j ps.length with h1 | h1
      · exact h1
      · rw [List.drop_eq_nil_iff.2 h1] at hd; simp at hd
    have hp : ps[j]? = some p := by have := congrArg (fun l => l[0]?) hd; simpa using this
    obtain ⟨i1, i2⟩ := hin p (List.mem_of_getElem? hp)
    have lp := pairL_len i1 i2
    rw [L12_0_eq, bcond_pos (by simp [ilt]; omega)]
    obtain ⟨ad, q1, _, _, q2⟩ := s.at (j := j) (by omega)
    rw [q1]; simp only [obind_some]
    rw [q2, pcells_at hp]
    simp only [obind_some]
    rw [vAgg_agg _ _ (by simp)]
    simp only [obind_some, List.getD_cons_zero, List.getD_cons_succ, vInt_int]
    obtain ⟨n', rfl⟩ : ∃ k, n = k + 23 := ⟨n - 23, by omega⟩
    obtain ⟨h1, e1, g1⟩ := C39 n' p.1 p.2 h w i1 i2
    rw [e1]
    simp only [obind_some, vStr_str, bs32]
    rw [scat_bs (by simp; omega)]
    simp only [obind_some]
    simp only [List.length_cons] at hT
    rw [scat_bs (by simp; omega)]
    simp only [obind_some]
    have hjj : wadd .i64 (j : Int) 1 = ((j + 1 : Nat) : Int) := by rw [wadd_in (by unfold in64; omega)]; omega
    rw [hjj]
    generalize dd _ = D
    obtain ⟨h2, e2, g2⟩ := ih (j + 1) m (T ++ ([32] ++ pairL p.1 p.2)) D h1 (by simp at hm; omega) (by rw [← List.drop_drop, hd]; rfl) (g1.wf w) (s.grown w g1) (by simp; omega) hll
    exact ⟨h2, by rw [e2]; simp [pairsL], g1.trans g2⟩

noncomputable def tail12 (n : Nat) (k rk rv : Int) (a : Option Addr) (l g : Nat) (t : ByteArray) (D : Nat → Value) (h : St) : Option (Value × St) :=
 (bcond (ieq k 1)
 (obind (scat t ⟨#[32]⟩) fun t11 =>
 (obind (acall adraw E P n 38 [(.int .i64 rv)] h) fun k12 =>
 (obind (vStr k12.1) fun t13 =>
 (obind (scat t11 t13) fun t14 =>
 (some ((.string t14), k12.2))))))
 (bcond (ieq k 2)
 (obind (scat t ⟨#[32]⟩) fun t15 =>
 (obind (acall adraw E P n 38 [(.int .i64 rv)] h) fun k16 =>
 (obind (vStr k16.1) fun t17 =>
 (obind (scat t15 t17) fun t18 =>
 (some ((.string t18), k16.2))))))
 (bcond (ieq k 3)
 (obind (scat t ⟨#[32]⟩) fun t19 =>
 (obind (acall adraw E P n 38 [(.int .i64 rv)] h) fun k20 =>
 (obind (vStr k20.1) fun t21 =>
 (obind (scat t19 t21) fun t22 =>
 (some ((.string t22), k20.2))))))
 (bcond (ieq k 4)
 (obind (scat t ⟨#[32]⟩) fun t23 =>
 (obind (acall adraw E P n 38 [(.int .i64 rv)] h) fun k24 =>
 (obind (vStr k24.1) fun t25 =>
 (obind (scat t23 t25) fun t26 =>
 (some ((.string t26), k24.2))))))
 (bcond (ieq k 5)
 (obind (scat t ⟨#[32]⟩) fun t27 =>
 (obind (acall adraw E P n 39 [(.agg #[(.int .i64 rk), (.int .i64 rv)])] h) fun k28 =>
 (obind (vStr k28.1) fun t29 =>
 (obind (scat t27 t29) fun t30 =>
 (some ((.string t30), k28.2))))))
 (bcond (ieq k 6)
 (obind (scat t ⟨#[32]⟩) fun t31 =>
 (obind (acall adraw E P n 39 [(.agg #[(.int .i64 rk), (.int .i64 rv)])] h) fun k32 =>
 (obind (vStr k32.1) fun t33 =>
 (obind (scat t31 t33) fun t34 =>
 (some ((.string t34), k32.2))))))
 (bcond (ieq k 7)
 (obind (scat t ⟨#[32]⟩) fun t35 =>
 (obind (acall adraw E P n 39 [(.agg #[(.int .i64 rk), (.int .i64 rv)])] h) fun k36 =>
 (obind (vStr k36.1) fun t37 =>
 (obind (scat t35 t37) fun t38 =>
 (some ((.string t38), k36.2))))))
 (bcond (ieq k 8)
 (obind (scat t ⟨#[32]⟩) fun t39 =>
 (obind (acall adraw E P n 39 [(.agg #[(.int .i64 rk), (.int .i64 rv)])] h) fun k40 =>
 (obind (vStr k40.1) fun t41 =>
 (obind (scat t39 t41) fun t42 =>
 (some ((.string t42), k40.2))))))
 (L12_0 n n t a l g (l : Nat) 0 D h)))))))))
theorem tail12_run (n : Nat) {k rk rv : Int} (hrk : in64 rk) (hrv : in64 rv) {a : Option Addr} {l g : Nat} {ps : List (Int × Int)} (hl : ps.length = l) (hin : ∀ p ∈ ps, in64 p.1 ∧ in64 p.2) (hll : l ≤ 2 ^ 40) (hn : l + 30 ≤ n)
    {h : St} (w : Wf h) (s : Shows h 2 a l g (pcells ps)) (T : List UInt8) (hT : T.length ≤ 200) (D : Nat → Value) :
    ∃ h', tail12 n k rk rv a l g (bs T) D h = some (.string (bs (T ++ tailL k rk rv ps)), h') ∧ Grown h h' := by
  have lrv := itoa_len hrv; have lp := pairL_len hrk hrv
  obtain ⟨n', rfl⟩ : ∃ k, n = k + 23 := ⟨n - 23, by omega⟩
  obtain ⟨h1, e1, g1⟩ := C38 (n' + 1) rv h w hrv
  obtain ⟨h2, e2, g2⟩ := C39 n' rk rv h w hrk hrv
  unfold tail12
  have last : tailL k rk rv ps = pairsL ps → ∃ h', L12_0 (n' + 23) (n' + 23) (bs T) a l g (l : Nat) 0 D h = some (.string (bs (T ++ tailL k rk rv ps)), h') ∧ Grown h h' := fun ht => by
    rw [ht]
    exact L12_run (n' + 23) (by omega) a l g ps hl hin ps 0 (n' + 23) T D h (by omega) rfl w s (by omega) hll
  rcases formOf_cases k with hk | ⟨k1, k2, k3, k4, k5, k6, k7, k8, k9⟩
  · rcases hk with rfl | rfl | rfl | rfl | rfl | rfl | rfl | rfl | rfl
    all_goals simp only [ieq_dec, Int.reduceEq, decide_true, decide_false, bcond_true, bcond_false, bs32]
    case inr.inr.inr.inr.inr.inr.inr.inr => exact last (by simp [tailL])
    all_goals rw [scat_bs (by simp; omega)]
    all_goals simp only [obind_some]
    all_goals first
      | rw [e1]
      | rw [e2]
    all_goals simp only [obind_some, vStr_str]
    all_goals rw [scat_bs (by simp; omega)]
    all_goals first
      | (refine ⟨h1, ?_, g1⟩; simp [obind_some, tailL]; done)
      | (refine ⟨h2, ?_, g2⟩; simp [obind_some, tailL]; done)
  · simp only [ieq_dec, k1, k2, k3, k4, k5, k6, k7, k8, decide_false, bcond_false]
    exact last (by simp [tailL, k1, k2, k3, k4, k5, k6, k7, k8])

theorem C12 (N : Nat) (t : Int) (ret : Bool) (k a b c : Int) (ok : Bool) (rk rv : Int) {ad : Option Addr} {l g : Nat} {ps : List (Int × Int)} (h : St) (w : Wf h) (ht : in64 t) (hk : in64 k) (ha : in64 a) (hb : in64 b) (hc : in64 c) (hrk : in64 rk) (hrv : in64 rv)
    (s : Shows h 2 ad l g (pcells ps)) (hl : ps.length = l) (hin : ∀ p ∈ ps, in64 p.1 ∧ in64 p.2) (hll : l ≤ 2 ^ 40) (hN : l + 50 ≤ N) :
    ∃ h', acall adraw E P N 12 [.agg #[.int .i64 t, .bool ret, .int .i64 k, .int .i64 a, .int .i64 b, .int .i64 c, .bool ok, .int .i64 rk, .int .i64 rv, .slice ad l g]] h = some (.string (bs (tellL t ret k a b c ok rk rv ps)), h') ∧ Grown h h' := by
  have lt := itoa_len ht; have lk := itoa_len hk
  obtain ⟨n, rfl⟩ : ∃ n, N = n + 25 := ⟨N - 25, by omega⟩
  obtain ⟨h1, e1, g1⟩ := C19 n k a b c h w ha hb hc
  have w1 := g1.wf w
  have s1 := s.grown w g1
  rw [F12_eq, e1]
  simp only [obind_some, vStr_str, bs0, seq_dec, bs_inj]
  have fin : ∀ (W : List UInt8) (h2 : St) (t9 : List UInt8), Grown h h2 → W.length ≤ 100 → (opL k a b c).getD (kindL k) = W → t9 = [116] ++ Lib.itoa t ++ [32] ++ W →
      (ret = true → ∀ D, ∃ h', tail12 (n + 24) k rk rv ad l g (bs (t9 ++ ([32, 45, 62, 32] ++ yesL ok))) D h2 = some (.string (bs (tellL t ret k a b c ok rk rv ps)), h') ∧ Grown h h') ∧
      (ret = false → tellL t ret k a b c ok rk rv ps = t9) := by
    intro W h2 t9 g2 hW hWe ht9
    have l9 : t9.length ≤ 130 := by rw [ht9]; simp; omega
    constructor
    · rintro rfl D
      obtain ⟨h3, e3, g3⟩ := tail12_run (n + 24) (k := k) hrk hrv hl hin hll (by omega) (g2.wf w) (s.grown w g2) (t9 ++ ([32, 45, 62, 32] ++ yesL ok)) (by cases ok <;> simp [yesL] <;> omega) D
      exact ⟨h3, by rw [e3, ht9]; simp [tellL, hWe], g2.trans g3⟩
    · rintro rfl
      simp [tellL, hWe, ht9]
  cases ho : opL k a b c with
  | none =>
    simp only [Option.getD_none, decide_true, bcond_true]
    obtain ⟨h2, e2, g2⟩ := C38 (n + 2) k h1 w1 hk
    obtain ⟨h3, e3, g3⟩ := C38 (n + 2) t h2 (g2.wf w1) ht
    rw [e2]
    simp only [obind_some, vStr_str]
    rw [show (⟨#[107, 105, 110, 100, 32]⟩ : ByteArray) = bs [107, 105, 110, 100, 32] from rfl, scat_bs (by simp; omega)]
    simp only [obind_some]
    rw [e3]
    simp only [obind_some, vStr_str]
    rw [show [107, 105, 110, 100, 32] ++ Lib.itoa k = kindL k from rfl]
    rw [show (⟨#[116]⟩ : ByteArray) = bs [116] from rfl, scat_bs (by simp; omega)]
    simp only [obind_some, bs32]
    rw [scat_bs (by simp; omega)]
    simp only [obind_some]
    rw [scat_bs (by simp [kindL]; omega)]
    simp only [obind_some]
    obtain ⟨f1, f2⟩ := fin (kindL k) h3 _ ((g1.trans g2).trans g3) (by simp [kindL]; omega) (by rw [ho]; rfl) rfl
    cases ret with
    | false => exact ⟨h3, by rw [f2 rfl]; rfl, ((g1.trans g2).trans g3)⟩
    | true =>
      rw [show bnot true = false from rfl, bcond_false]
      cases ok with
      | true =>
        rw [bcond_true, show (⟨#[32, 45, 62, 32, 121, 101, 115]⟩ : ByteArray) = bs [32, 45, 62, 32, 121, 101, 115] from rfl, scat_bs (by simp [kindL]; omega)]
        simp only [obind_some]
        generalize dd _ = D
        exact f1 rfl D
      | false =>
        rw [bcond_false, show (⟨#[32, 45, 62, 32, 110, 111]⟩ : ByteArray) = bs [32, 45, 62, 32, 110, 111] from rfl, scat_bs (by simp [kindL]; omega)]
        simp only [obind_some]
        generalize dd _ = D
        exact f1 rfl D
  | some S =>
    obtain ⟨o1, o2⟩ := opL_len ha hb hc ho
    obtain ⟨h3, e3, g3⟩ := C38 (n + 2) t h1 w1 ht
    simp only [Option.getD_some, o2, decide_false, bcond_false]
    rw [e3]
    simp only [obind_some, vStr_str]
    rw [show (⟨#[116]⟩ : ByteArray) = bs [116] from rfl, scat_bs (by simp; omega)]
    simp only [obind_some, bs32]
    rw [scat_bs (by simp; omega)]
    simp only [obind_some]
    rw [scat_bs (by simp; omega)]
    simp only [obind_some]
    obtain ⟨f1, f2⟩ := fin S h3 _ (g1.trans g3) (by omega) (by rw [ho]; rfl) rfl
    cases ret with
    | false => exact ⟨h3, by rw [f2 rfl]; rfl, (g1.trans g3)⟩
    | true =>
      rw [show bnot true = false from rfl, bcond_false]
      cases ok with
      | true =>
        rw [bcond_true, show (⟨#[32, 45, 62, 32, 121, 101, 115]⟩ : ByteArray) = bs [32, 45, 62, 32, 121, 101, 115] from rfl, scat_bs (by simp; omega)]
        simp only [obind_some]
        generalize dd _ = D
        exact f1 rfl D
      | false =>
        rw [bcond_false, show (⟨#[32, 45, 62, 32, 110, 111]⟩ : ByteArray) = bs [32, 45, 62, 32, 110, 111] from rfl, scat_bs (by simp; omega)]
        simp only [obind_some]
        generalize dd _ = D
        exact f1 rfl D

theorem C4 (N : Nat) (t : Int) (ret : Bool) (k a b c : Int) (ok : Bool) (rk rv : Int) {ad : Option Addr} {l g : Nat} {ps : List (Int × Int)} (h : St) (w : Wf h) (ht : in64 t) (hk : in64 k) (ha : in64 a) (hb : in64 b) (hc : in64 c) (hrk : in64 rk) (hrv : in64 rv)
    (s : Shows h 2 ad l g (pcells ps)) (hl : ps.length = l) (hin : ∀ p ∈ ps, in64 p.1 ∧ in64 p.2) (hll : l ≤ 2 ^ 40) (hN : l + 60 ≤ N) :
    ∃ h', acall adraw E P N 4 [.agg #[.int .i64 t, .bool ret, .int .i64 k, .int .i64 a, .int .i64 b, .int .i64 c, .bool ok, .int .i64 rk, .int .i64 rv, .slice ad l g]] h = some (.bool true, h') ∧ Grown h h' := by
  obtain ⟨n, rfl⟩ : ∃ n, N = n + 13 := ⟨N - 13, by omega⟩
  obtain ⟨h1, e1, g1⟩ := C11 n t ret k a b c ok rk rv h w ht hk ha hb hc hrk hrv s hin (by omega)
  obtain ⟨h2, e2, g2⟩ := C12 (n + 12) t ret k a b c ok rk rv h1 (g1.wf w) ht hk ha hb hc hrk hrv (s.grown w g1) hl hin hll (by omega)
  rw [F4_eq, X7]
  simp only [obind_some, vBool_bool, bcond_true]
  rw [e1]
  simp only [obind_some, vStr_str]
  rw [e2]
  simp only [obind_some, vStr_str]
  exact ⟨h2, by simp [seq_dec], g1.trans g2⟩
end Go.Am.Sh
