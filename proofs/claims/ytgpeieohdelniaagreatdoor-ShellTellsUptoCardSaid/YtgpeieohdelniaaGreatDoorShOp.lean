/- Shell: an operation as a text. -/
import Derived.Test.YtgpeieohdelniaaGreatDoorShNum
import Derived.Test.YtgpeieohdelniaaGreatDoorAmRows
namespace Go.Am.Sh
open Go Go.RowKit Go.Am Go.Proofs
set_option maxRecDepth 100000

/-- An operation's word, and how many numbers follow. -/
def formOf (k : Int) : Option (List UInt8 × Nat) :=
  if k = 1 then some ([103, 101, 116], 1) else if k = 2 then some ([112, 117, 116], 2) else if k = 3 then some ([105, 102, 97, 98, 115, 101, 110, 116], 2)
  else if k = 4 then some ([100, 101, 108, 101, 116, 101], 1) else if k = 5 then some ([97, 102, 116, 101, 114], 1) else if k = 6 then some ([98, 101, 102, 111, 114, 101], 1)
  else if k = 7 then some ([109, 105, 110], 0) else if k = 8 then some ([109, 97, 120], 0) else if k = 9 then some ([114, 97, 110, 103, 101], 2) else none
def opJ (f : List UInt8) (m : Nat) (a z : Int) : List UInt8 := match m with
  | 0 => f
  | 1 => f ++ 32 :: Lib.itoa a
  | _ => f ++ 32 :: Lib.itoa a ++ 32 :: Lib.itoa z
def opL (k a b c : Int) : Option (List UInt8) := (formOf k).map fun f => opJ f.1 f.2 a (if k = 9 then c else b)
theorem formOf_cases (k : Int) : (k = 1 ∨ k = 2 ∨ k = 3 ∨ k = 4 ∨ k = 5 ∨ k = 6 ∨ k = 7 ∨ k = 8 ∨ k = 9) ∨ (k ≠ 1 ∧ k ≠ 2 ∧ k ≠ 3 ∧ k ≠ 4 ∧ k ≠ 5 ∧ k ≠ 6 ∧ k ≠ 7 ∧ k ≠ 8 ∧ k ≠ 9) := by omega

theorem C45 (n : Nat) (k : Int) (h : St) : acall adraw E P (n + 1) 45 [.int .i64 k] h = some (.tuple #[.string (bs ((formOf k).getD ([], 0)).1), .int .i64 ((formOf k).getD ([], 0)).2], h) := by
  rw [F45_eq]
  rcases formOf_cases k with h | ⟨h1, h2, h3, h4, h5, h6, h7, h8, h9⟩
  · rcases h with rfl | rfl | rfl | rfl | rfl | rfl | rfl | rfl | rfl <;> rfl
  · simp only [ieq_dec, h1, h2, h3, h4, h5, h6, h7, h8, h9, decide_false, bcond_false, formOf, if_false]; rfl

theorem itoas {x : Int} (hx : in64 x) : (bs (Lib.itoa x)).size ≤ 21 := by rw [bs_size]; exact itoa_len hx

theorem formOf_some {k : Int} {f : List UInt8} {m : Nat} (h : formOf k = some (f, m)) : f ≠ [] ∧ f.length ≤ 8 ∧ (m = 0 ∨ m = 1 ∨ m = 2) ∧ (k = 9 → m = 2) := by
  rcases formOf_cases k with hk | ⟨h1, h2, h3, h4, h5, h6, h7, h8, h9⟩
  · rcases hk with rfl | rfl | rfl | rfl | rfl | rfl | rfl | rfl | rfl
    all_goals simp [formOf] at h; obtain ⟨rfl, rfl⟩ := h; simp
  · simp [formOf, h1, h2, h3, h4, h5, h6, h7, h8, h9] at h
theorem bs32 : (⟨#[32]⟩ : ByteArray) = bs [32] := rfl
theorem bs0 : (⟨#[]⟩ : ByteArray) = bs [] := rfl

theorem C19 (n : Nat) (k a b c : Int) (h : St) (w : Wf h) (ha : in64 a) (hb : in64 b) (hc : in64 c) :
    ∃ h', acall adraw E P (n + 24) 19 [.agg #[.int .i64 k, .int .i64 a, .int .i64 b, .int .i64 c]] h = some (.string (bs ((opL k a b c).getD [])), h') ∧ Grown h h' := by
  have la := itoa_len ha; have lb := itoa_len hb; have lc := itoa_len hc
  obtain ⟨h1, e1, g1⟩ := C38 (n + 1) a h w ha
  obtain ⟨h2, e2, g2⟩ := C38 (n + 1) b h1 (g1.wf w) hb
  obtain ⟨h3, e3, g3⟩ := C38 (n + 1) c h1 (g1.wf w) hc
  rw [F19_eq, C45]
  simp only [obind_some]
  rw [vTup_tup _ _ (by simp)]
  simp only [obind_some, List.getD_cons_zero, List.getD_cons_succ, vStr_str, vInt_int, bs32, bs0, seq_dec, bs_inj]
  cases hf : formOf k with
  | none => simp only [opL, hf]; exact ⟨h, rfl, Grown.refl h⟩
  | some fm =>
    obtain ⟨f, m⟩ := fm
    obtain ⟨f1, f2, f3, f4⟩ := formOf_some hf
    simp only [Option.getD_some, f1, decide_false, bcond_false]
    simp only [opL, hf, Option.map_some, Option.getD_some]
    rcases f3 with rfl | rfl | rfl
    · have h9 : k ≠ 9 := fun e => by have := f4 e; omega
      exact ⟨h, rfl, Grown.refl h⟩
    · have h9 : k ≠ 9 := fun e => by have := f4 e; omega
      rw [show ilt 0 ((1 : Nat) : Int) = true from rfl, bcond_true, show ieq ((1 : Nat) : Int) 2 = false from rfl, e1]
      simp only [obind_some, vStr_str]
      rw [scat_bs (by simp; omega)]
      simp only [obind_some]
      rw [scat_bs (by simp; omega)]
      simp only [obind_some, bcond_false]
      exact ⟨h1, rfl, g1⟩
    · simp only [opJ]
      rw [show ilt 0 ((2 : Nat) : Int) = true from rfl, bcond_true, show ieq ((2 : Nat) : Int) 2 = true from rfl, e1]
      simp only [obind_some, vStr_str]
      rw [scat_bs (by simp; omega)]
      simp only [obind_some]
      rw [scat_bs (by simp; omega)]
      simp only [obind_some, bcond_true]
      by_cases h9 : k = 9
      · rw [bcond_pos (by simp [ieq_dec, h9]), scat_bs (by simp; omega)]
        simp only [obind_some]
        rw [e3]
        simp only [obind_some, vStr_str]
        rw [scat_bs (by simp; omega)]
        exact ⟨h3, by simp [h9, obind_some], g1.trans g3⟩
      · rw [bcond_neg (by simp [ieq_dec, h9]), scat_bs (by simp; omega)]
        simp only [obind_some]
        rw [e2]
        simp only [obind_some, vStr_str]
        rw [scat_bs (by simp; omega)]
        exact ⟨h2, by simp [h9, obind_some], g1.trans g2⟩

/-! the program's forms -/
def entry (i : Int) (f : List UInt8) (m : Nat) : Value × Value := (.int .i64 i, .agg #[.string (bs f), .int .i64 m])
def formsL : List (Value × Value) := [entry 1 [103, 101, 116] 1, entry 2 [112, 117, 116] 2, entry 3 [105, 102, 97, 98, 115, 101, 110, 116] 2, entry 4 [100, 101, 108, 101, 116, 101] 1,
  entry 5 [97, 102, 116, 101, 114] 1, entry 6 [98, 101, 102, 111, 114, 101] 1, entry 7 [109, 105, 110] 0, entry 8 [109, 97, 120] 0, entry 9 [114, 97, 110, 103, 101] 2]
theorem mput_new {h : St} {d : TypeDesc} {r : Nat} {k v : Value} {es : List (Value × Value)} (hg : h.get r = some (.map false es)) (hf : h.floor ≤ r) (hk : flat k = true) (hn : findAt d k es 0 = some none) :
    mput h d (.map (some r)) k v = some (h.put r (.map false (es ++ [(k, v)]))) := by
  simp [mput, hk, hf, hg, hn]
theorem get_put {h : St} {r : Nat} {o o' : AObj} (hg : h.get r = some o) : (h.put r o').get r = some o' := by
  have hv : h.vis r = true := by
    unfold St.get at hg; split at hg
    · assumption
    · simp at hg
  simp [St.get, St.put, upd, hv]
theorem C42 (n : Nat) (h : St) (w : Wf h) : ∃ h', acall adraw E P (n + 1) 42 [] h = some (.map (some h.next), h') ∧ Grown h h' ∧ h'.next = h.next + 1 ∧ h'.get h.next = some (.map false formsL) := by
  rw [F42_eq]
  have g0 := Grown.new h (.map false [])
  have step : ∀ (h1 : St) (es : List (Value × Value)) (i : Int) (f : List UInt8) (m : Nat), Grown h h1 → h1.next = h.next + 1 → h1.get h.next = some (.map false es) → findAt (.int .i64) (.int .i64 i) es 0 = some none →
      mput h1 (.int .i64) (.map (some h.next)) (.int .i64 i) (.agg #[.string (bs f), .int .i64 m]) = some (h1.put h.next (.map false (es ++ [entry i f m]))) ∧
      Grown h (h1.put h.next (.map false (es ++ [entry i f m]))) ∧ (h1.put h.next (.map false (es ++ [entry i f m]))).next = h.next + 1 ∧ (h1.put h.next (.map false (es ++ [entry i f m]))).get h.next = some (.map false (es ++ [entry i f m])) :=
    fun h1 es i f m g hn hg hf => ⟨mput_new hg (by rw [g.floor]; exact w.fl) rfl hf, g.put (Nat.le_refl _) (by omega) _, hn, get_put hg⟩
  obtain ⟨e1, g1, n1, s1⟩ := step _ [] 1 [103, 101, 116] 1 g0 rfl (get_new w _) rfl
  obtain ⟨e2, g2, n2, s2⟩ := step _ _ 2 [112, 117, 116] 2 g1 n1 s1 rfl
  obtain ⟨e3, g3, n3, s3⟩ := step _ _ 3 [105, 102, 97, 98, 115, 101, 110, 116] 2 g2 n2 s2 rfl
  obtain ⟨e4, g4, n4, s4⟩ := step _ _ 4 [100, 101, 108, 101, 116, 101] 1 g3 n3 s3 rfl
  obtain ⟨e5, g5, n5, s5⟩ := step _ _ 5 [97, 102, 116, 101, 114] 1 g4 n4 s4 rfl
  obtain ⟨e6, g6, n6, s6⟩ := step _ _ 6 [98, 101, 102, 111, 114, 101] 1 g5 n5 s5 rfl
  obtain ⟨e7, g7, n7, s7⟩ := step _ _ 7 [109, 105, 110] 0 g6 n6 s6 rfl
  obtain ⟨e8, g8, n8, s8⟩ := step _ _ 8 [109, 97, 120] 0 g7 n7 s7 rfl
  obtain ⟨e9, g9, n9, s9⟩ := step _ _ 9 [114, 97, 110, 103, 101] 2 g8 n8 s8 rfl
  refine ⟨_, ?_, g9, n9, s9⟩
  erw [e1]; simp only [obind_some]
  erw [e2]; simp only [obind_some]
  erw [e3]; simp only [obind_some]
  erw [e4]; simp only [obind_some]
  erw [e5]; simp only [obind_some]
  erw [e6]; simp only [obind_some]
  erw [e7]; simp only [obind_some]
  erw [e8]; simp only [obind_some]
  erw [e9]; simp only [obind_some]
theorem forms_look {h : St} {r : Nat} (hg : h.get r = some (.map false formsL)) (k : Int) :
    mlookD h (.int .i64) (.agg #[.string (bs []), .int .i64 0]) (.map (some r)) (.int .i64 k) = some (match formOf k with
      | some f => (.agg #[.string (bs f.1), .int .i64 f.2], true)
      | none => (.agg #[.string (bs []), .int .i64 0], false)) := by
  have hfl : flat (.int .i64 k) = true := rfl
  simp only [mlookD, mlook, hfl, if_true, mapOf, hg, Option.bind_some]
  rcases formOf_cases k with hk | ⟨h1, h2, h3, h4, h5, h6, h7, h8, h9⟩
  · rcases hk with rfl | rfl | rfl | rfl | rfl | rfl | rfl | rfl | rfl <;> rfl
  · have hf : formOf k = none := by simp [formOf, h1, h2, h3, h4, h5, h6, h7, h8, h9]
    have : findAt (.int .i64) (.int .i64 k) formsL 0 = some none := by
      have b : ∀ i : Int, k ≠ i → (k == i) = false := fun i hi => beq_eq_false_iff_ne.2 hi
      simp [findAt, formsL, entry, Instr.sameNow, b 1 h1, b 2 h2, b 3 h3, b 4 h4, b 5 h5, b 6 h6, b 7 h7, b 8 h8, b 9 h9]
    rw [this, hf]; rfl

/-! joined -/
def joinL (xs : List (List UInt8)) : List UInt8 := Lib.join xs [32]
theorem strs_map (xs : List (List UInt8)) : strs (xs.map fun x => .string (bs x)) = some (xs.map bs) := by
  induction xs with
  | nil => rfl
  | cons x xs ih => simp [strs, ih]
theorem X44 (n : Nat) {h : St} {a : Option Addr} {l g : Nat} (xs : List (List UInt8)) (s : Shows h 1 a l g (xs.map fun x => .string (bs x))) (h0 : 0 < xs.length) (h1 : xs.length ≤ 100) (h2 : (joinL xs).length ≤ 100000) :
    acall adraw E P (n + 1) 44 [.slice a l g, .string (bs [32])] h = some (.string (bs (joinL xs)), h) := by
  have e : acall adraw E P (n + 1) 44 [.slice a l g, .string (bs [32])] h = xJoin [.slice a l g, .string (bs [32])] h := by kernel_rfl
  rw [e]
  have hl := s.length
  simp at hl
  rcases s with ⟨rfl, _⟩ | ⟨ad, ro, c', rfl, k1, k2, k3, k4⟩
  · omega
  have hm : (xs.map bs).map (fun x => x.data.toList) = xs := by simp [bs, Function.comp_def]
  have hj : joinOk (xs.map bs) (bs [32]) = true := by
    simp only [joinOk, hm, Bool.and_eq_true, decide_eq_true_eq, List.length_map]
    refine ⟨⟨h0, by omega⟩, ?_⟩
    show (joinL xs).length ≤ _
    omega
  simp only [xJoin, k2]
  rw [if_pos ⟨trivial, trivial, k1, by omega⟩]
  rw [Nat.mul_one] at k4
  rw [← k4, strs_map]
  simp only [obind_some]
  rw [hj, bcond_true]
  simp only [joinB, hm]
  rfl

/-- The loop over an operation's numbers. -/
theorem L18_run (n : Nat) (h0 : St) (w0 : Wf h0) (af : Option Addr) (lf gf : Nat) : ∀ (rest : List Int) (done : List (List UInt8)) (j m : Nat) (all : List Int) (a : Option Addr) (l g : Nat) (d : Nat → Value) (h : St), rest.length < m →
    all.drop j = rest → j ≤ all.length → lf = all.length → Shows h 1 af lf gf (all.map fun x => .int .i64 x) → (∀ ad, af = some ad → ∀ ad', a = some ad' → ad.block ≠ ad'.block) → (∀ ad, af = some ad → ad.block < h.next) →
    Own h0 h 1 a l g (done.map fun x => .string (bs x)) → Wf h → Grown h0 h → (∀ x ∈ all, in64 x) → all.length ≤ 2 → l + rest.length ≤ 10 →
    ∃ a' l' g' d' h', L18_0 (n + 1) m a l g af lf gf lf j d h = A18_1 (n + 1) a' l' g' d' h' ∧ Own h0 h' 1 a' l' g' ((done ++ rest.map Lib.itoa).map fun x => .string (bs x)) ∧ Grown h0 h' ∧ Wf h' := by
  intro rest
  induction rest with
  | nil =>
    intro done j m all a l g d h hm hd hj hlf hs hne hlt ho w gr hin hal hll
    obtain ⟨m, rfl⟩ : ∃ k, m = k + 1 := ⟨m - 1, by simp at hm; omega⟩
    have : all.length ≤ j := List.drop_eq_nil_iff.1 hd
    rw [L18_0_eq, bcond_neg (by simp [ilt]; omega)]
    exact ⟨a, l, g, _, h, rfl, by simpa using ho, gr, w⟩
  | cons x rest ih =>
    intro done j m all a l g d h hm hd hj hlf hs hne hlt ho w gr hin hal hll
    obtain ⟨m, rfl⟩ : ∃ k, m = k + 1 := ⟨m - 1, by simp at hm; omega⟩
    have hjl : j < all.length := by
      rcases Nat.lt_or_ge j all.length with h1 | h1
      · exact h1
      · rw [List.drop_eq_nil_iff.2 h1] at hd; simp at hd
    have hx : all[j]? = some x := by
      have := congrArg (fun l => l[0]?) hd
      simpa using this
    rw [L18_0_eq, bcond_pos (by simp [ilt]; omega)]
    obtain ⟨ad, q1, _, q2, _⟩ := hs.at (j := j) (by omega)
    rw [q1]; simp only [obind_some]
    rw [q2 (by decide)]
    simp only [Nat.mul_one, List.getElem?_map, hx, Option.map_some, obind_some, vInt_int]
    rw [X43 n x h (hin x (List.mem_of_getElem? hx))]
    simp only [obind_some, vStr_str]
    -- the new word
    have w1 : Wf (h.new (.arr false 1 0 [.string (bs (Lib.itoa x))])) := (Grown.new h _).wf w
    have gr1 := gr.trans (Grown.new h (.arr false 1 0 [.string (bs (Lib.itoa x))]))
    have ho1 := ho.grown (Grown.new h (.arr false 1 0 [.string (bs (Lib.itoa x))]))
    have hs1 := hs.grown w (Grown.new h (.arr false 1 0 [.string (bs (Lib.itoa x))]))
    obtain ⟨a', g', h', r1, r2, r3, r4, r5, r6, r7, r8⟩ := ho1.app (b := 16) (x := .slice (some ⟨h.next, 0, none⟩) 1 0) (k := 1) (new := [.string (bs (Lib.itoa x))]) w1 gr1 w0 rfl
      ((Shows.new w 1 [.string (bs (Lib.itoa x))] 1 rfl).row) rfl rfl (by simp at hll; omega) (by simp at hll; omega)
    rw [r1]
    simp only [obind_some, vSl_slice]
    have hjj : wadd .i64 (j : Int) 1 = ((j + 1 : Nat) : Int) := by rw [wadd_in (by unfold in64; omega)]; omega
    rw [hjj]
    have hs' : Shows h' 1 af lf gf (all.map fun x => .int .i64 x) := hs1.keep fun ad' had _ => r7 _ (Nat.lt_of_lt_of_le (hlt ad' had) (Nat.le_succ _)) (fun ad2 h2 => hne _ had _ h2)
    obtain ⟨a2, l2, g2, d2, h2, e2, o2, gr2, w2⟩ := ih (done ++ [Lib.itoa x]) (j + 1) m all a' (l + 1) g' _ h' (by simp at hm; omega) (by rw [← List.drop_drop, hd]; rfl) hjl hlf hs'
      (fun ad1 h1 ad2 h2 => by
        rcases r8 ad2 h2 with ⟨ad3, h3, h4⟩ | h3
        · rw [h4]; exact hne _ h1 _ h3
        · have := hlt _ h1; simp only [next_new] at h3; omega)
      (fun ad1 h1 => Nat.lt_of_lt_of_le (hlt _ h1) (Nat.le_trans (Nat.le_succ _) r4)) (by simpa using r2) r6 r3 hin hal (by simp at hll; omega)
    exact ⟨a2, l2, g2, d2, h2, e2, by simpa using o2, gr2, w2⟩

theorem joinT (f : List UInt8) (a z : Int) (m : Nat) (f3 : m = 0 ∨ m = 1 ∨ m = 2) (f2 : f.length ≤ 8) (la : (Lib.itoa a).length ≤ 21) (lz : (Lib.itoa z).length ≤ 21) :
    (joinL ([f] ++ ([a, z].take m).map Lib.itoa)).length ≤ 100000 ∧ joinL ([f] ++ ([a, z].take m).map Lib.itoa) = opJ f m a z := by
  rcases f3 with rfl | rfl | rfl
  · have : joinL ([f] ++ ([a, z].take 0).map Lib.itoa) = f := Lib.join_one f _
    rw [this]; exact ⟨by omega, rfl⟩
  · have : joinL ([f] ++ ([a, z].take 1).map Lib.itoa) = f ++ 32 :: Lib.itoa a := by
      show Lib.join (f :: [Lib.itoa a]) [32] = _
      rw [Lib.join_cons]; simp [Lib.joinTail]
    rw [this]; exact ⟨by rw [List.length_append, List.length_cons]; omega, rfl⟩
  · have : joinL ([f] ++ ([a, z].take 2).map Lib.itoa) = f ++ 32 :: Lib.itoa a ++ 32 :: Lib.itoa z := by
      show Lib.join (f :: [Lib.itoa a, Lib.itoa z]) [32] = _
      rw [Lib.join_cons]; simp [Lib.joinTail]
    rw [this]; exact ⟨by rw [List.length_append, List.length_append, List.length_cons, List.length_cons]; omega, rfl⟩

set_option maxHeartbeats 2000000 in
theorem C18 (n : Nat) (k a b c : Int) (h : St) (w : Wf h) (ha : in64 a) (hb : in64 b) (hc : in64 c) :
    ∃ h', acall adraw E P (n + 10) 18 [.agg #[.int .i64 k, .int .i64 a, .int .i64 b, .int .i64 c]] h = some (.tuple #[.string (bs ((opL k a b c).getD [])), .int .i64 (if (opL k a b c).isSome then 0 else 5)], h') ∧ Grown h h' := by
  have la := itoa_len ha; have lb := itoa_len hb; have lc := itoa_len hc
  obtain ⟨h1, e1, g1, n1, s1⟩ := C42 (n + 8) h w
  have w1 := g1.wf w
  rw [F18_eq, e1]
  simp only [obind_some, vMap_map, bs0]
  rw [forms_look s1]
  cases hf : formOf k with
  | none => simp only [opL, hf]; exact ⟨h1, rfl, g1⟩
  | some fm =>
    obtain ⟨f, m⟩ := fm
    obtain ⟨f1, f2, f3, f4⟩ := formOf_some hf
    simp only [obind_some, bnot, Bool.not_true, bcond_false]
    rw [vAgg_agg _ _ (by simp)]
    simp only [obind_some, List.getD_cons_zero, List.getD_cons_succ, vStr_str, vInt_int, opL, hf, Option.map_some, Option.getD_some, Option.isSome_some, if_true]
    -- the two numbers
    have main : ∀ z : Int, in64 z → z = (if k = 9 then c else b) → ∃ a',
        scut ((h1.new (.arr false 1 0 [.string (bs f)])).new (.arr false 1 0 [.int .i64 a, .int .i64 z])) 1 (.slice (some ⟨(h1.new (.arr false 1 0 [.string (bs f)])).next, 0, none⟩) 2 0) none (some (.int .i64 (m : Nat))) = some (.slice a' m 0) ∧
        ∀ D, ∃ h', L18_0 (n + 9) (n + 9) (some ⟨h1.next, 0, none⟩) 1 0 a' m 0 (m : Nat) 0 D ((h1.new (.arr false 1 0 [.string (bs f)])).new (.arr false 1 0 [.int .i64 a, .int .i64 z])) =
          some (.tuple #[.string (bs (opJ f m a (if k = 9 then c else b))), .int .i64 0], h') ∧ Grown h h' := by
      intro z hz hzk
      have lz := itoa_len hz
      have ga := Grown.new h1 (.arr false 1 0 [.string (bs f)])
      have wa := ga.wf w1
      have gb := Grown.new (h1.new (.arr false 1 0 [.string (bs f)])) (.arr false 1 0 [.int .i64 a, .int .i64 z])
      have wb := gb.wf wa
      have hm2 : m ≤ 2 := by omega
      obtain ⟨a', k1, k2, k3⟩ := (Shows.new wa 1 [.int .i64 a, .int .i64 z] 2 rfl).cut (lo := none) (hi := some (.int .i64 (m : Nat))) (j := 0) (i := m) (fun _ => ⟨_, false, _, rfl, rfl, get_new wa _⟩) (fun e => by simp at e) rfl rfl (by omega) hm2
      simp only [Nat.sub_zero, Nat.zero_mul, List.drop_zero, Nat.mul_one] at k1 k2
      refine ⟨a', k1, fun D => ?_⟩
      have hT : ([a, z].take m).length = m := by simp; omega
      have hin : ∀ x ∈ [a, z].take m, in64 x := fun x hx => by have := List.mem_of_mem_take hx; simp at this; rcases this with rfl | rfl <;> assumption
      have hS : Shows ((h1.new (.arr false 1 0 [.string (bs f)])).new (.arr false 1 0 [.int .i64 a, .int .i64 z])) 1 a' m 0 (([a, z].take m).map fun x => .int .i64 x) := by rw [List.map_take]; exact k2
      have hlen := joinT f a z m f3 f2 la lz
      generalize [a, z].take m = T at hT hin hS hlen
      obtain ⟨a2, l2, g2, d2, h2, e2, o2, gr2, w2⟩ := L18_run (n + 8) h1 w1 a' m 0 T [f] 0 (n + 9) T (some ⟨h1.next, 0, none⟩) 1 0 D _
        (by omega) rfl (Nat.zero_le _) hT.symm hS
        (fun ad ha ad' ha' => by
          obtain ⟨ad3, h3, h4, _⟩ := k3 ad ha
          simp at h3 ha'
          rw [h4, ← h3, ← ha', next_new]; simp)
        (fun ad ha => by
          obtain ⟨ad3, h3, h4, _⟩ := k3 ad ha
          simp at h3
          rw [h4, ← h3]; exact Nat.lt_succ_self _)
        ((Own.new w1 (Nat.le_refl _) 1 [.string (bs f)] 1 rfl).grown gb) wb (ga.trans gb)
        hin (by omega) (by omega)
      have hcast : ((0 : Nat) : Int) = 0 := rfl
      rw [hcast] at e2
      rw [e2, A18_1_eq, bs32]
      rw [X44 (n + 8) _ o2.shows (by simp) (by simp; omega) hlen.1]
      simp only [obind_some, vStr_str]
      exact ⟨h2, by rw [hlen.2, hzk], g1.trans gr2⟩
    by_cases h9 : k = 9
    · obtain ⟨a', k1, hD⟩ := main c hc (by simp [h9])
      rw [bcond_pos (by simp [ieq_dec, h9]), k1]
      simp only [obind_some, vSl_slice]
      generalize dd _ = D
      exact hD D
    · obtain ⟨a', k1, hD⟩ := main b hb (by simp [h9])
      rw [bcond_neg (by simp [ieq_dec, h9]), k1]
      simp only [obind_some, vSl_slice]
      generalize dd _ = D
      exact hD D
end Go.Am.Sh
