/- Regions that draw their order: any order does what the text's order does. -/
import Derived.Test.YtgpeieohdelniaaGreatDoorAmDraw2
namespace Go.Am
open Go Go.RowKit

/-! orders, with no operation in sight -/
structure Pair (Wr Rd : Nat → List Nat) (K : Nat → Nat) (Bl : Nat → Bool) (x y : Nat) : Prop where
  ww : ∀ s ∈ Wr x, s ∉ Rd y ++ Wr y
  rw : ∀ s ∈ Wr y, s ∉ Rd x
  hp : K x = 0 ∨ K y = 0 ∨ (K x = 1 ∧ (K y = 1 ∨ (K y = 2 ∧ Bl y = true)))
structure Net (n : Nat) (E pm : Nat → List Nat) (Wr Rd : Nat → List Nat) (K : Nat → Nat) (Bl : Nat → Bool) : Prop where
  low : ∀ i, ∀ j ∈ E i, j < i
  pmv : ∀ i, ∀ j ∈ pm i, j ∈ E i ∨ ∃ k ∈ E i, j ∈ pm k
  pair : ∀ x y, x < y → y < n → x ∈ pm y ∨ Pair Wr Rd K Bl x y
structure Canon (n : Nat) (Wr : Nat → List Nat) (K : Nat → Nat) (Bl : Nat → Bool) (tt : Nat → List Value) (hh : Nat → St) : Prop where
  off : ∀ i, i < n → Off (Wr i) (tt i) (tt (i + 1))
  still : ∀ i, i < n → K i ≠ 2 → hh (i + 1) = hh i
  inc : ∀ i, i < n → Bl i = true → Inc (hh i) (hh (i + 1))

def valAt (S : Nat → Bool) (Wr : Nat → List Nat) (tt : Nat → List Value) (s : Nat) : Nat → Value
  | 0 => (tt 0).getD s undef
  | m + 1 => if S m = true ∧ s ∈ Wr m then (tt (m + 1)).getD s undef else valAt S Wr tt s m
def hAt (S : Nat → Bool) (K : Nat → Nat) (hh : Nat → St) : Nat → St
  | 0 => hh 0
  | m + 1 => if S m = true ∧ K m = 2 then hh (m + 1) else hAt S K hh m
structure Down (n : Nat) (E : Nat → List Nat) (S : Nat → Bool) : Prop where
  down : ∀ i, S i = true → ∀ j ∈ E i, S j = true
structure ReadyAt (n : Nat) (E : Nat → List Nat) (S : Nat → Bool) (i : Nat) : Prop where
  lt : i < n
  out : S i = false
  all : ∀ j ∈ E i, S j = true

section
variable {n : Nat} {E pm Wr Rd : Nat → List Nat} {K : Nat → Nat} {Bl : Nat → Bool} {tt : Nat → List Value} {hh : Nat → St} {S : Nat → Bool} {i : Nat}

theorem Net.down (N : Net n E pm Wr Rd K Bl) (d : Down n E S) : ∀ (i : Nat), (∀ j ∈ E i, S j = true) → ∀ j ∈ pm i, S j = true := by
  intro i
  induction i using Nat.strongRecOn with
  | _ i ih =>
    intro h j hj
    rcases N.pmv i j hj with h1 | ⟨k, hk, h1⟩
    · exact h j h1
    · exact ih k (N.low i k hk) (d.down k (h k hk)) j h1
theorem Net.ready (N : Net n E pm Wr Rd K Bl) (d : Down n E S) (r : ReadyAt n E S i) : ∀ j ∈ pm i, S j = true := N.down d i r.all
theorem Net.above (N : Net n E pm Wr Rd K Bl) (d : Down n E S) (r : ReadyAt n E S i) {j : Nat} (hij : i < j) (hj : j < n) (hS : S j = true) : Pair Wr Rd K Bl i j := by
  rcases N.pair i j hij hj with h | h
  · have := N.down d j (d.down j hS) i h
    rw [r.out] at this; simp at this
  · exact h
theorem Net.below (N : Net n E pm Wr Rd K Bl) (d : Down n E S) (r : ReadyAt n E S i) {j : Nat} (hij : j < i) : S j = true ∨ Pair Wr Rd K Bl j i := by
  rcases N.pair j i hij r.lt with h | h
  · exact .inl (N.ready d r j h)
  · exact .inr h

theorem Net.val (N : Net n E pm Wr Rd K Bl) (C : Canon n Wr K Bl tt hh) (d : Down n E S) (r : ReadyAt n E S i) {s : Nat} (hs : s ∈ Rd i ++ Wr i) : ∀ m, m ≤ n → valAt S Wr tt s m = (tt (min m i)).getD s undef := by
  intro m
  induction m with
  | zero => intro _; simp [valAt]
  | succ m ih =>
    intro hm
    have ih := ih (by omega)
    simp only [valAt]
    rcases Nat.lt_trichotomy m i with h | h | h
    · have e1 : min (m + 1) i = m + 1 := by omega
      have e2 : min m i = m := by omega
      rw [e1]; rw [e2] at ih
      by_cases hw : s ∈ Wr m
      · rcases N.below d r h with h1 | h1
        · rw [if_pos ⟨h1, hw⟩]
        · exact absurd hs (h1.ww s hw)
      · rw [if_neg (fun h => hw h.2), ih]; exact (C.off m (by omega) s hw).symm
    · subst h
      have e1 : min (m + 1) m = m := by omega
      have e2 : min m m = m := by omega
      rw [e1, if_neg (fun h => by rw [r.out] at h; simp at h), ih, e2]
    · have e1 : min (m + 1) i = i := by omega
      have e2 : min m i = i := by omega
      rw [e1]; rw [e2] at ih
      rw [if_neg, ih]
      rintro ⟨h1, h2⟩
      have p := N.above d r h (by omega) h1
      rcases List.mem_append.1 hs with h3 | h3
      · exact p.rw s h2 h3
      · exact p.ww s h3 (List.mem_append_right _ h2)

theorem Net.heap2 (N : Net n E pm Wr Rd K Bl) (C : Canon n Wr K Bl tt hh) (d : Down n E S) (r : ReadyAt n E S i) (hk : K i = 2) : ∀ m, m ≤ n → hAt S K hh m = hh (min m i) := by
  intro m
  induction m with
  | zero => intro _; simp [hAt]
  | succ m ih =>
    intro hm
    have ih := ih (by omega)
    simp only [hAt]
    rcases Nat.lt_trichotomy m i with h | h | h
    · have e1 : min (m + 1) i = m + 1 := by omega
      have e2 : min m i = m := by omega
      rw [e1]; rw [e2] at ih
      by_cases hw : K m = 2
      · rcases N.below d r h with h1 | h1
        · rw [if_pos ⟨h1, hw⟩]
        · have := h1.hp; omega
      · rw [if_neg (fun h => hw h.2), ih]; exact (C.still m (by omega) hw).symm
    · subst h
      have e1 : min (m + 1) m = m := by omega
      have e2 : min m m = m := by omega
      rw [e1, if_neg (fun h => by rw [r.out] at h; simp at h), ih, e2]
    · have e1 : min (m + 1) i = i := by omega
      have e2 : min m i = i := by omega
      rw [e1]; rw [e2] at ih
      rw [if_neg, ih]
      rintro ⟨h1, h2⟩
      have := (N.above d r h (by omega) h1).hp
      omega

theorem Net.heap1 (N : Net n E pm Wr Rd K Bl) (C : Canon n Wr K Bl tt hh) (d : Down n E S) (r : ReadyAt n E S i) (hk : K i = 1) : ∀ m, m ≤ n → (m ≤ i → hAt S K hh m = hh m) ∧ (i ≤ m → Inc (hh i) (hAt S K hh m)) := by
  intro m
  induction m with
  | zero =>
    intro _
    exact ⟨fun _ => rfl, fun h => by have : i = 0 := by omega
                                     subst this; exact Inc.refl _⟩
  | succ m ih =>
    intro hm
    obtain ⟨ih1, ih2⟩ := ih (by omega)
    simp only [hAt]
    have low : m < i → (if S m = true ∧ K m = 2 then hh (m + 1) else hAt S K hh m) = hh (m + 1) := fun h => by
      by_cases hw : K m = 2
      · rcases N.below d r h with h1 | h1
        · rw [if_pos ⟨h1, hw⟩]
        · have := h1.hp; omega
      · rw [if_neg (fun h => hw h.2), ih1 (by omega)]; exact (C.still m (by omega) hw).symm
    refine ⟨fun h => low (by omega), fun h => ?_⟩
    rcases Nat.lt_trichotomy m i with h | h | h
    · have hi : i = m + 1 := by omega
      rw [low h, ← hi]; exact Inc.refl _
    · subst h
      rw [if_neg (fun h => by rw [r.out] at h; simp at h)]; exact ih2 (Nat.le_refl _)
    · split
      · rename_i hm2
        -- all between i and m that make or write are there and blind
        have chain : ∀ k, i ≤ k → k ≤ m + 1 → Inc (hh i) (hh k) := by
          intro k
          induction k with
          | zero => intro h1 _; have : i = 0 := by omega
                    subst this; exact Inc.refl _
          | succ k ihk =>
            intro h1 h2
            rcases Nat.eq_or_lt_of_le h1 with h3 | h3
            · rw [h3]; exact Inc.refl _
            · refine (ihk (by omega) (by omega)).trans ?_
              by_cases hw : K k = 2
              · have hki : i ≠ k := fun e => by rw [← e] at hw; omega
                have hSk : S k = true := by
                  rcases Nat.eq_or_lt_of_le (show k ≤ m by omega) with e | e
                  · rw [e]; exact hm2.1
                  · rcases N.pair k m e (by omega) with h4 | h4
                    · exact N.down d m (d.down m hm2.1) k h4
                    · have := h4.hp; omega
                have p := (N.above d r (show i < k by omega) (by omega) hSk).hp
                refine C.inc k (by omega) ?_
                rcases p with p | p | ⟨_, p | ⟨_, p⟩⟩ <;> first | omega | exact p
              · rw [C.still k (by omega) hw]; exact Inc.refl _
        exact chain (m + 1) (by omega) (Nat.le_refl _)
      · exact ih2 (by omega)

def put (S : Nat → Bool) (i : Nat) : Nat → Bool := fun j => S j || j == i
theorem put_self (S : Nat → Bool) (i : Nat) : put S i i = true := by simp [put]
theorem put_ne (S : Nat → Bool) {i j : Nat} (h : j ≠ i) : put S i j = S j := by simp [put, h]

theorem Net.valPut (N : Net n E pm Wr Rd K Bl) (d : Down n E S) (r : ReadyAt n E S i) (s : Nat) : ∀ m, m ≤ n → (s ∉ Wr i → valAt (put S i) Wr tt s m = valAt S Wr tt s m) ∧ (s ∈ Wr i → i < m → valAt (put S i) Wr tt s m = (tt (i + 1)).getD s undef) := by
  intro m
  induction m with
  | zero => intro _; exact ⟨fun _ => rfl, fun _ h => by omega⟩
  | succ m ih =>
    intro hm
    obtain ⟨ih1, ih2⟩ := ih (by omega)
    simp only [valAt]
    refine ⟨fun h => ?_, fun h hlt => ?_⟩
    · by_cases hmi : m = i
      · subst hmi; rw [if_neg (fun k => h k.2), if_neg (fun k => h k.2), ih1 h]
      · rw [put_ne _ hmi, ih1 h]
    · by_cases hmi : m = i
      · subst hmi; rw [if_pos ⟨put_self _ _, h⟩]
      · rw [put_ne _ hmi, if_neg, ih2 h (by omega)]
        rintro ⟨h1, h2⟩
        have p := N.above d r (show i < m by omega) (by omega) h1
        exact p.ww s h (List.mem_append_right _ h2)
theorem Net.hPut (N : Net n E pm Wr Rd K Bl) (d : Down n E S) (r : ReadyAt n E S i) : ∀ m, m ≤ n → (K i ≠ 2 → hAt (put S i) K hh m = hAt S K hh m) ∧ (K i = 2 → i < m → hAt (put S i) K hh m = hh (i + 1)) := by
  intro m
  induction m with
  | zero => intro _; exact ⟨fun _ => rfl, fun _ h => by omega⟩
  | succ m ih =>
    intro hm
    obtain ⟨ih1, ih2⟩ := ih (by omega)
    simp only [hAt]
    refine ⟨fun h => ?_, fun h hlt => ?_⟩
    · by_cases hmi : m = i
      · subst hmi; rw [if_neg (fun k => h k.2), if_neg (fun k => h k.2), ih1 h]
      · rw [put_ne _ hmi, ih1 h]
    · by_cases hmi : m = i
      · subst hmi; rw [if_pos ⟨put_self _ _, h⟩]
      · rw [put_ne _ hmi, if_neg, ih2 h (by omega)]
        rintro ⟨h1, h2⟩
        have p := (N.above d r (show i < m by omega) (by omega) h1).hp
        omega
theorem Down.put (d : Down n E S) (r : ReadyAt n E S i) : Down n E (put S i) := ⟨fun j hj k hk => by
  by_cases hji : j = i
  · subst hji; have := r.all k hk; simp [Go.Am.put, this]
  · rw [put_ne _ hji] at hj; have := d.down j hj k hk; simp [Go.Am.put, this]⟩
theorem Canon.valAll (C : Canon n Wr K Bl tt hh) (hS : ∀ j, j < n → S j = true) (s : Nat) : ∀ m, m ≤ n → valAt S Wr tt s m = (tt m).getD s undef := by
  intro m
  induction m with
  | zero => intro _; rfl
  | succ m ih =>
    intro hm
    simp only [valAt]
    split
    · rfl
    · rename_i h
      rw [ih (by omega)]
      exact (C.off m (by omega) s (fun hw => h ⟨hS m (by omega), hw⟩)).symm
theorem Canon.hAll (C : Canon n Wr K Bl tt hh) (hS : ∀ j, j < n → S j = true) : ∀ m, m ≤ n → hAt S K hh m = hh m := by
  intro m
  induction m with
  | zero => intro _; rfl
  | succ m ih =>
    intro hm
    simp only [hAt]
    split
    · rfl
    · rename_i h
      rw [ih (by omega)]
      exact (C.still m (by omega) (fun hw => h ⟨hS m (by omega), hw⟩)).symm
theorem valAt_some (S : Nat → Bool) (s : Nat) : ∀ m, ∃ k, k ≤ m ∧ valAt S Wr tt s m = (tt k).getD s undef := by
  intro m
  induction m with
  | zero => exact ⟨0, Nat.le_refl _, rfl⟩
  | succ m ih =>
    simp only [valAt]
    split
    · exact ⟨m + 1, Nat.le_refl _, rfl⟩
    · obtain ⟨k, h1, h2⟩ := ih; exact ⟨k, by omega, h2⟩
theorem hAt_some (S : Nat → Bool) : ∀ m, ∃ k, k ≤ m ∧ hAt S K hh m = hh k := by
  intro m
  induction m with
  | zero => exact ⟨0, Nat.le_refl _, rfl⟩
  | succ m ih =>
    simp only [hAt]
    split
    · exact ⟨m + 1, Nat.le_refl _, rfl⟩
    · obtain ⟨k, h1, h2⟩ := ih; exact ⟨k, by omega, h2⟩

/-! how many are left -/
def left (S : Nat → Bool) : Nat → Nat
  | 0 => 0
  | m + 1 => left S m + if S m = true then 0 else 1
theorem left_put {S : Nat → Bool} {i : Nat} (hS : S i = false) : ∀ m, left (put S i) m + (if i < m then 1 else 0) = left S m := by
  intro m
  induction m with
  | zero => rfl
  | succ m ih =>
    simp only [left]
    by_cases hm : m = i
    · subst hm
      have e1 : (if m < m + 1 then 1 else 0) = 1 := if_pos (by omega)
      have e2 : (if m < m then 1 else 0) = 0 := if_neg (by omega)
      rw [e2] at ih
      rw [put_self, hS, e1]
      simp; omega
    · have e1 : (if i < m + 1 then 1 else 0) = if i < m then 1 else 0 := by
        by_cases h : i < m
        · rw [if_pos h, if_pos (by omega)]
        · rw [if_neg h, if_neg (by omega)]
      rw [put_ne _ hm, e1]; omega
theorem left_zero {S : Nat → Bool} : ∀ m, left S m = 0 → ∀ j, j < m → S j = true := by
  intro m
  induction m with
  | zero => intro _ j hj; omega
  | succ m ih =>
    intro h j hj
    simp only [left] at h
    rcases Nat.lt_or_ge j m with h1 | h1
    · exact ih (by omega) j h1
    · have : j = m := by omega
      subst this
      cases hS : S j
      · simp [hS] at h
      · rfl
end
end Go.Am
