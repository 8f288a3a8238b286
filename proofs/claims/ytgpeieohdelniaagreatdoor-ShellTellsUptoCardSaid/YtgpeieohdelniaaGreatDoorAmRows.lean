/- Slices: what they show, how they grow. -/
import Derived.Test.YtgpeieohdelniaaGreatDoorAmUse
namespace Go.Am
open Go

/-- A slice shows these cells: l elements of e cells. -/
def Shows (h : St) (e : Nat) (a : Option Addr) (l g : Nat) (c : List Value) : Prop :=
  (l = 0 ∧ c = []) ∨ ∃ ad ro c', a = some ad ∧ ad.spot = none ∧ h.get ad.block = some (.arr ro e g c') ∧ ad.off + l * e ≤ c'.length ∧ c = (c'.drop ad.off).take (l * e)
theorem Shows.length {h : St} {e : Nat} {a : Option Addr} {l g : Nat} {c : List Value} (s : Shows h e a l g c) : c.length = l * e := by
  rcases s with ⟨rfl, rfl⟩ | ⟨ad, ro, c', _, _, _, h3, rfl⟩
  · simp
  · simp; omega
theorem Shows.row {h : St} {e : Nat} {a : Option Addr} {l g : Nat} {c : List Value} (s : Shows h e a l g c) : sliceRow h e l (.slice a l g) = some c := by
  rcases s with ⟨rfl, rfl⟩ | ⟨ad, ro, c', rfl, h1, h2, h3, rfl⟩
  · cases a <;> simp [sliceRow]
  · simp only [sliceRow, Nat.le_refl, if_true, h2, h1, and_self, and_true, true_and, h3]
    split
    · rename_i h0; subst h0; simp
    · rfl
/-- The heap may change where the slice does not look. -/
theorem Shows.keep {h h' : St} {e : Nat} {a : Option Addr} {l g : Nat} {c : List Value} (s : Shows h e a l g c) (hk : ∀ ad, a = some ad → 0 < l → h'.get ad.block = h.get ad.block) : Shows h' e a l g c := by
  rcases Nat.eq_zero_or_pos l with rfl | hl
  · left; have := s.length; simp at this; exact ⟨rfl, this⟩
  · rcases s with ⟨rfl, rfl⟩ | ⟨ad, ro, c', rfl, h1, h2, h3, rfl⟩
    · omega
    · exact .inr ⟨ad, ro, c', rfl, h1, by rw [hk _ rfl hl]; exact h2, h3, rfl⟩
theorem Shows.grown {h h' : St} {e : Nat} {a : Option Addr} {l g : Nat} {c : List Value} (s : Shows h e a l g c) (w : Wf h) (k : Grown h h') : Shows h' e a l g c := by
  rcases s with ⟨rfl, rfl⟩ | ⟨ad, ro, c', rfl, h1, h2, h3, rfl⟩
  · exact .inl ⟨rfl, rfl⟩
  · exact .inr ⟨ad, ro, c', rfl, h1, by rw [k.get (lt_of_get w h2)]; exact h2, h3, rfl⟩
/-- An element's place, its cells. -/
theorem Shows.at {h : St} {e : Nat} {a : Option Addr} {l g : Nat} {c : List Value} (s : Shows h e a l g c) {j : Nat} (hj : j < l) :
    ∃ ad, sidxA e (.slice a l g) j = some ad ∧ (∀ i, i < e → ld1 h (.pointer (some (aadd ad i))) = c[j * e + i]?) ∧ (0 < e → ld1 h (.pointer (some ad)) = c[j * e]?) ∧ ldN h e (.pointer (some ad)) = some (.agg ((c.drop (j * e)).take e).toArray) := by
  rcases s with ⟨rfl, rfl⟩ | ⟨ad, ro, c', rfl, h1, h2, h3, rfl⟩
  · omega
  have hm : j * e + e ≤ l * e := by rw [← Nat.succ_mul]; exact Nat.mul_le_mul_right _ hj
  generalize hL : l * e = L at hm h3
  generalize hJ : j * e = J at hm
  refine ⟨{ block := ad.block, off := ad.off + J, spot := some g }, ?_, fun i hi => ?_, fun he => ?_, ?_⟩
  · have h01 : (0 : Int) ≤ (j : Int) ∧ (j : Int) < (l : Int) := ⟨by omega, by omega⟩
    simp [sidxA, sidx, h1, hJ, h01]
  · simp only [ld1, St.row, aadd, h2, if_true, Option.bind_some]
    rw [List.getElem?_take, if_pos (by omega), List.getElem?_drop, Nat.add_assoc]
  · simp only [ld1, St.row, h2, if_true, Option.bind_some]
    rw [List.getElem?_take, if_pos (by omega), List.getElem?_drop]
  · simp only [ldN, St.row, h2, if_true, Option.bind_some]
    rw [if_pos (by omega)]
    congr 3
    rw [List.drop_take, List.take_take, List.drop_drop, Nat.min_eq_left (by omega)]
/-- A new array. -/
theorem Shows.new {h : St} (w : Wf h) (e : Nat) (c : List Value) (l : Nat) (hl : c.length = l * e) : Shows (h.new (.arr false e 0 c)) e (some ⟨h.next, 0, none⟩) l 0 c :=
  .inr ⟨_, false, c, rfl, rfl, get_new w _, by simp [hl], by simp [← hl]⟩
/-- A stretch of a slice. -/
theorem Shows.cut {h : St} {e : Nat} {a : Option Addr} {l g : Nat} {c : List Value} (s : Shows h e a l g c) (ha : a.isSome = true → ∃ ad ro c', a = some ad ∧ ad.spot = none ∧ h.get ad.block = some (.arr ro e g c')) (hn : a = none → l = 0 ∧ g = 0)
    {lo hi : Option Value} {j i : Nat} (hlo : abound 0 lo = some (j : Int)) (hhi : abound l hi = some (i : Int)) (h1 : j ≤ i) (h2 : i ≤ l) :
    ∃ a', scut h e (.slice a l g) lo hi = some (.slice a' (i - j) g) ∧ Shows h e a' (i - j) g ((c.drop (j * e)).take ((i - j) * e)) ∧ (∀ ad', a' = some ad' → ∃ ad, a = some ad ∧ ad'.block = ad.block ∧ ad'.spot = none) := by
  cases a with
  | none =>
    obtain ⟨rfl, rfl⟩ := hn rfl
    obtain rfl : i = 0 := by omega
    obtain rfl : j = 0 := by omega
    refine ⟨none, ?_, ?_, by simp⟩
    · simp [scut] at hhi hlo ⊢; simp [hhi, hlo]
    · exact .inl ⟨rfl, by simp⟩
  | some ad =>
    obtain ⟨ad, ro, c0, hx, hsp, hg⟩ := ha rfl
    simp only [Option.some.injEq] at hx; subst hx
    refine ⟨some (aadd ad (j * e)), ?_, ?_, fun ad' hh => ⟨ad, rfl, ?_⟩⟩
    · simp only [scut, hhi, hlo, hg, Option.bind_some]
      rw [if_pos (show True ∧ ad.spot = none ∧ (0 : Int) ≤ (j : Int) ∧ (j : Int) ≤ (i : Int) ∧ (i : Int) ≤ (l : Int) from ⟨trivial, hsp, by omega, by omega, by omega⟩)]
      simp
    · rcases s with ⟨rfl, rfl⟩ | ⟨ad2, ro2, c', hx, h1', h2', h3, rfl⟩
      · exact .inl ⟨by omega, by simp⟩
      · simp only [Option.some.injEq] at hx; subst hx
        have e1 : (i - j) * e = i * e - j * e := Nat.sub_mul ..
        have e2 : i * e ≤ l * e := Nat.mul_le_mul_right _ h2
        have e3 : j * e ≤ i * e := Nat.mul_le_mul_right _ h1
        refine .inr ⟨_, ro2, c', rfl, ?_, h2', ?_, ?_⟩
        · simpa [aadd] using hsp
        · simp only [aadd]; omega
        · simp only [aadd]
          rw [List.drop_take, List.take_take, List.drop_drop, Nat.min_eq_left (by omega)]
    · simp only [Option.some.injEq] at hh; subst hh; simp [aadd, hsp]

/-- A slice of the call's own that grows: nothing yet, or an array behind all that was there in h0. -/
def Own (h0 h : St) (e : Nat) (a : Option Addr) (l g : Nat) (c : List Value) : Prop :=
  (a = none ∧ l = 0 ∧ g = 0 ∧ c = []) ∨ ∃ id, a = some ⟨id, 0, none⟩ ∧ h0.next ≤ id ∧ id < h.next ∧ h.get id = some (.arr false e g c) ∧ c.length = l * e
theorem Own.shows {h0 h : St} {e : Nat} {a : Option Addr} {l g : Nat} {c : List Value} (o : Own h0 h e a l g c) : Shows h e a l g c := by
  rcases o with ⟨rfl, rfl, rfl, rfl⟩ | ⟨id, rfl, h1, h2, h3, h4⟩
  · exact .inl ⟨rfl, rfl⟩
  · exact .inr ⟨_, false, c, rfl, rfl, h3, by simp [h4], by simp [← h4]⟩
theorem Own.nil (h0 h : St) (e : Nat) : Own h0 h e none 0 0 [] := .inl ⟨rfl, rfl, rfl, rfl⟩
theorem Own.keep {h0 h h' : St} {e : Nat} {a : Option Addr} {l g : Nat} {c : List Value} (o : Own h0 h e a l g c) (hn : h.next ≤ h'.next) (hk : ∀ ad, a = some ad → h'.get ad.block = h.get ad.block) : Own h0 h' e a l g c := by
  rcases o with ⟨rfl, rfl, rfl, rfl⟩ | ⟨id, rfl, h1, h2, h3, h4⟩
  · exact .inl ⟨rfl, rfl, rfl, rfl⟩
  · exact .inr ⟨id, rfl, h1, by omega, by rw [hk _ rfl]; exact h3, h4⟩
theorem Own.grown {h0 h h' : St} {e : Nat} {a : Option Addr} {l g : Nat} {c : List Value} (o : Own h0 h e a l g c) (k : Grown h h') : Own h0 h' e a l g c := by
  refine o.keep k.next fun ad ha => ?_
  rcases o with ⟨rfl, _⟩ | ⟨id, rfl, h1, h2, h3, h4⟩
  · simp at ha
  · simp only [Option.some.injEq] at ha; subst ha; exact k.get h2
theorem Own.new {h0 h : St} (w : Wf h) (k : h0.next ≤ h.next) (e : Nat) (c : List Value) (l : Nat) (hl : c.length = l * e) : Own h0 (h.new (.arr false e 0 c)) e (some ⟨h.next, 0, none⟩) l 0 c :=
  .inr ⟨h.next, rfl, k, Nat.lt_succ_self _, get_new w _, hl⟩
/-- append to a slice of the call's own. -/
theorem Own.app {h0 h : St} {e b : Nat} {a : Option Addr} {l g : Nat} {c : List Value} (o : Own h0 h e a l g c) (w : Wf h) (gr : Grown h0 h) (w0 : Wf h0) {x : Value} {k : Nat} {new : List Value}
    (hk : slen x = some k) (hr : rowOf h e k x = some new) (h1 : new.all one1 = true) (hn : new.length = k * e) (b1 : l + k ≤ 2 ^ 47) (b2 : (l + k) * b ≤ 2 ^ 47) :
    ∃ a' g' h', sapp h e b (.slice a l g) x = some (.slice a' (l + k) g', h') ∧ Own h0 h' e a' (l + k) g' (c ++ new) ∧ Grown h0 h' ∧ h.next ≤ h'.next ∧ h'.next ≤ h.next + 1 ∧ Wf h' ∧
      (∀ j, j < h.next → (∀ ad, a = some ad → j ≠ ad.block) → h'.get j = h.get j) ∧ (∀ ad', a' = some ad' → (∃ ad, a = some ad ∧ ad'.block = ad.block) ∨ h.next ≤ ad'.block) := by
  rcases Nat.eq_zero_or_pos k with rfl | hk0
  · have : new = [] := by simpa using hn
    subst this
    rcases o with ⟨rfl, rfl, rfl, rfl⟩ | ⟨id, rfl, k1, k2, k3, k4⟩
    · exact ⟨none, 0, h, by simp [sapp, hk, hr], .inl ⟨rfl, rfl, rfl, rfl⟩, gr, Nat.le_refl _, Nat.le_succ _, w, fun _ _ _ => rfl, by simp⟩
    · refine ⟨some ⟨id, 0, none⟩, g, h, by simp [sapp, hk, hr], .inr ⟨id, rfl, k1, k2, by simpa using k3, by simpa using k4⟩, gr, Nat.le_refl _, Nat.le_succ _, w, fun _ _ _ => rfl, fun ad' he => .inl ?_⟩
      exact ⟨_, rfl, by simp at he; rw [← he]⟩
  · rcases o with ⟨rfl, rfl, rfl, rfl⟩ | ⟨id, rfl, k1, k2, k3, k4⟩
    · refine ⟨some ⟨h.next, 0, none⟩, 0, h.new (.arr false e 0 new), ?_, ?_, gr.trans (Grown.new h _), Nat.le_succ _, Nat.le_refl _, (Grown.new h _).wf w, fun j hj _ => (Grown.new h _).get hj, fun ad' he => .inr ?_⟩
      · simp only [sapp, hk, hr, Option.bind_some]
        rw [if_neg (by omega), if_pos ⟨by omega, by simpa using b2⟩]
        simp
      · simpa using Own.new (h0 := h0) w gr.next e new k hn
      · simp at he; rw [← he]; exact Nat.le_refl _
    · have hfl : h.floor ≤ id := by rw [gr.floor]; exact Nat.le_trans w0.fl k1
      have hput : Grown h0 (h.put id (.arr false e (g + 1) (c ++ new))) := gr.put k1 k2 _
      refine ⟨some ⟨id, 0, none⟩, g + 1, h.put id (.arr false e (g + 1) (c ++ new)), ?_, ?_, hput, Nat.le_refl _, Nat.le_succ _, hput.wf w0, fun j hj hne => ?_, fun ad' he => .inl ?_⟩
      · simp only [sapp, hk, hr, Option.bind_some, k3]
        rw [if_neg (by omega), if_pos ⟨h1, b1, b2, hfl, trivial⟩, if_pos ⟨trivial, trivial, by simp [k4]⟩]
        simp [← k4]
      · refine .inr ⟨id, rfl, k1, k2, ?_, by rw [List.length_append, k4, hn, Nat.add_mul]⟩
        have hv : h.vis id = true := by
          unfold St.get at k3; split at k3
          · assumption
          · simp at k3
        simp [St.get, St.put, upd, hv]
      · have := hne _ rfl
        simp only [St.get, St.put, upd]
        rw [if_neg (show j ≠ id from this)]
        rfl
      · exact ⟨_, rfl, by simp at he; rw [← he]⟩
end Go.Am
