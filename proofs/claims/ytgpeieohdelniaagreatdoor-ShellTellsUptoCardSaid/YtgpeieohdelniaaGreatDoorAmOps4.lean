/- copy, clear, len, cuts, addresses, fields, parts. -/
import Derived.Test.YtgpeieohdelniaaGreatDoorAmOps3
namespace Go.Am
open Go Go.RowKit

section
variable {P : Program} {α : Corr} {h h' : St} {B : Nat} {w : World}

theorem row_arr {id e g off : Nat} {ro : Bool} {c : List Value} (hg : h.get id = some (.arr ro e g c)) : h.row ⟨id, off, some g⟩ = some c := by
  simp [St.row, hg]

theorem acopy_sound {t u ty : TypeId} {d x cd cx v : Value} (k : acopy P h t d x = some (v, h')) (H : HRel α h.m B w)
    (hd : VRel α h.m d cd) (hx : VRel α h.m x cx) : ValOut P α h B w (Builtin.copy_ #[t, u] ty #[cd, cx]) v h' := by
  unfold acopy at k
  cases he : telem P t with
  | none => simp [he] at k
  | some e =>
  cases hn : tsize P e with
  | none => simp [he, hn] at k
  | some n =>
  simp only [he, hn, Option.bind_some] at k
  unfold scopy at k
  cases hk : slen x with
  | none => simp [hk] at k
  | some kk =>
  simp only [hk, Option.bind_some] at k
  have hlen := slen_sound (P := P) hk hx
  have ht := telem_und he
  cases d with
  | slice a len g =>
    cases a with
    | none =>
      cases hd
      simp only [Option.some.injEq, Prod.mk.injEq] at k
      obtain ⟨rfl, rfl⟩ := k
      refine ⟨α, w, _, ?_, .int _ _, H, Le.refl _ _, Below.refl _ _⟩
      have hfc : (Builtin.firstCells n 0 cx).run P w = .ok #[] w := by
        cases hx <;> simp [slen] at hk <;> simp [Builtin.firstCells, loadCells, loadCellsFrom]
      simp [Builtin.copy_, goInt, run_und ht, hlen, run_tsize hn, hfc]
    | some a =>
      simp only at k
      obtain ⟨ca, cap, rfl, hcap, _, ro2, e2, g2, cc2, hm2, hl2⟩ := slice_at hd
      split at k
      · rename_i h0
        simp only [Option.some.injEq, Prod.mk.injEq] at k
        obtain ⟨rfl, rfl⟩ := k
        refine ⟨α, w, _, ?_, .int _ _, H, Le.refl _ _, Below.refl _ _⟩
        have hfc : (Builtin.firstCells n 0 cx).run P w = .ok #[] w := by
          cases hx <;> simp [slen] at hk <;> simp [Builtin.firstCells, loadCells, loadCellsFrom]
        have h0' : Nat.min kk len = 0 := h0
        simp [Builtin.copy_, goInt, run_und ht, hlen, run_tsize hn, h0', hfc, storeCells]
      · rename_i h0
        split at k
        · rename_i hc
          obtain ⟨hsp, hn0⟩ := hc
          split at k
          · rename_i ro' e' g' c hg
            cases hr : rowOf h n (min kk len) x with
            | none => simp [hr] at k
            | some src =>
              simp only [hr, Option.bind_some] at k
              split at k
              · rename_i hc'
                obtain ⟨rfl, rfl, hfit, h1⟩ := hc'
                cases hs : h.setRow { a with spot := some g' } (splice c a.off src) with
                | none => simp [hs] at k
                | some h'' =>
                  simp only [hs, Option.bind_some, Option.some.injEq, Prod.mk.injEq] at k
                  obtain ⟨rfl, rfl⟩ := k
                  have hm := St.get_m hg
                  rw [hm] at hm2; simp at hm2
                  obtain ⟨rfl, rfl, rfl, rfl⟩ := hm2
                  obtain ⟨hl1, hl2, hl3⟩ := hl2 rfl
                  have hca := hl2 (by omega)
                  subst hca
                  obtain ⟨scs, hsR, hsl, hsrun⟩ := rowOf_sound (P := P) hr H hx hk (Nat.min_le_left _ _)
                  have hmul : min kk len * e' ≤ len * e' := Nat.mul_le_mul_right _ (Nat.min_le_right _ _)
                  obtain ⟨w', hst, H', hle, hB⟩ := setRow_sound (P := P) (a := { a with spot := some g' }) (row_arr (off := a.off) hg) hs (by simp only; omega) hsR (all_one1 hsR h1) H
                  refine ⟨α, w', _, ?_, .int _ _, H', hle, hB⟩
                  have hrun := hsrun w rfl
                  have hmin : Nat.min kk len = min kk len := rfl
                  simp [Builtin.copy_, goInt, run_und ht, hlen, run_tsize hn, hmin, hrun, hst]
              · simp at k
          · simp at k
        · simp at k
  | _ => simp at k

theorem aclear_sound {t ty : TypeId} {d cd : Value} (k : aclear P h t d = some h') (H : HRel α h.m B w) (hd : VRel α h.m d cd) :
    ValOut P α h B w (Builtin.clear_ #[t] ty #[cd]) undef h' := by
  unfold aclear at k
  cases he : telem P t with
  | none => simp [he] at k
  | some e =>
  cases hn : tsize P e with
  | none => simp [he, hn] at k
  | some n =>
  cases hz : tzero P e with
  | none => simp [he, hn, hz] at k
  | some z =>
  simp only [he, hn, hz, Option.bind_some] at k
  unfold sclear at k
  have ht := telem_und he
  have hzr := run_tzero (w := w) hz
  cases d with
  | slice a len g =>
    cases a with
    | none =>
      cases hd
      simp only [Option.some.injEq] at k; subst k
      exact ⟨α, w, _, by simp [Builtin.clear_, run_und ht]; rfl, VRel.undef _ _, H, Le.refl _ _, Below.refl _ _⟩
    | some a =>
      simp only at k
      obtain ⟨ca, cap, rfl, hcap, _, ro2, e2, g2, cc2, hm2, hl2⟩ := slice_at hd
      split at k
      · rename_i h0; subst h0
        simp only [Option.some.injEq] at k; subst k
        exact ⟨α, w, _, by simp [Builtin.clear_, run_und ht]; rfl, VRel.undef _ _, H, Le.refl _ _, Below.refl _ _⟩
      · rename_i h0
        split at k
        · rename_i hc
          obtain ⟨hsp, hzs, h1, hn0⟩ := hc
          split at k
          · rename_i ro' e' g' c hg
            split at k
            · rename_i hc'
              obtain ⟨rfl, rfl, hfit⟩ := hc'
              have hm := St.get_m hg
              rw [hm] at hm2; simp at hm2
              obtain ⟨rfl, rfl, rfl, rfl⟩ := hm2
              obtain ⟨hl1, hl2, hl3⟩ := hl2 rfl
              have hca := hl2 (by omega)
              subst hca
              have hzl := zeros_length (z := z) (n := len)
              have hfl := zeros_flat (n := len) hzr.2
              have hone : ∀ v ∈ zeros z len, one1 v = true := fun v hv => by
                unfold zeros at hv
                rw [List.mem_flatten] at hv
                obtain ⟨l, hl, hv⟩ := hv
                rw [List.mem_replicate] at hl
                rw [hl.2] at hv
                rw [List.all_eq_true] at h1
                exact h1 v hv
              obtain ⟨w', hst, H', hle, hB⟩ := setRow_sound (P := P) (a := { a with spot := some g' }) (row_arr (off := a.off) hg) k (by simp only [hzl, hzs]; omega) (LRel.flat hfl) hone H
              have hzc : (Builtin.zeroCells z.cells len).toList = zeros z len := by
                have := madeCells_take (z := z) (n := len) (k := len) (by omega) (Nat.le_refl _)
                rw [List.take_of_length_le (by simp [size_madeCells])] at this
                exact this
              refine ⟨α, w', _, ?_, VRel.undef _ _, H', hle, hB⟩
              cases len with
              | zero => exact absurd rfl h0
              | succ len => simp [Builtin.clear_, run_und ht, hzr.1, hzc, hst]; rfl
            · simp at k
          · simp at k
        · simp at k
  | _ => simp at k

theorem alen_sound {t ty : TypeId} {x cx v : Value} (k : alen P h t x = some v) (H : HRel α h.m B w) (hx : VRel α h.m x cx) : PureOut P α h.m w (Builtin.len_ #[t] ty #[cx]) v := by
  unfold alen at k
  split at k
  · rename_i hu
    cases hx <;> simp at k
    subst k; exact ⟨_, by simp [Builtin.len_, goInt, run_und hu], .int _ _⟩
  · rename_i n e hu
    simp only [Option.some.injEq] at k; subst k
    refine ⟨_, ?_, .int _ _⟩
    cases hx <;> simp [Builtin.len_, goInt, run_und hu]
  · rename_i e hu
    cases hx <;> simp [vlen] at k <;> subst k <;> exact ⟨_, by simp [Builtin.len_, goInt, run_und hu], .int _ _⟩
  · rename_i a b hu
    cases hx with
    | mnil => simp [maplen] at k; subst k; exact ⟨_, by simp [Builtin.len_, goInt, run_und hu], .int _ _⟩
    | map id ro es hm =>
      simp only [maplen] at k
      cases hg : h.get id with
      | none => simp [hg] at k
      | some o =>
        have hm' := St.get_m hg
        rw [hm] at hm'; simp at hm'; subst hm'
        simp only [hg, Option.bind_some, Option.some.injEq] at k; subst k
        obtain ⟨es2, clk, hb, hsz, _⟩ := H.obj _ _ hm
        refine ⟨_, ?_, .int _ _⟩
        have hgo : (getObj (α.blk id)).run P w = .ok (.map es2 clk) w := by simp [getObj, Sem.run, hb]
        simp [Builtin.len_, goInt, run_und hu, hgo, hsz]
    | _ => simp [maplen] at k
  · simp at k

/-- A bound of a cut, as it is asked. -/
def BRel (α : Corr) (m : Mem) (a b : Option Value) : Prop := (a = none ∧ b = none) ∨ ∃ x y, a = some x ∧ b = some y ∧ VRel α m x y
theorem BRel.bound {m : Mem} {a b : Option Value} {d i : Int} (k : BRel α m a b) (hb : abound d a = some i) : (b = none ∧ i = d) ∨ ∃ kd, b = some (.int kd i) := by
  rcases k with ⟨rfl, rfl⟩ | ⟨x, y, rfl, rfl, hxy⟩
  · simp [abound] at hb; exact .inl ⟨rfl, hb.symm⟩
  · cases x <;> simp [abound] at hb
    subst hb
    cases hxy
    exact .inr ⟨_, rfl⟩
theorem run_bounds {lo hi clo chi : Option Value} {i j : Int} {len cap : Nat} (isSlice : Bool) (hlo : BRel α h.m lo clo) (hhi : BRel α h.m hi chi) (ki : abound len hi = some i) (kj : abound 0 lo = some j)
    (h0 : 0 ≤ j) (h1 : j ≤ i) (h2 : i ≤ cap) : (Instr.sliceBounds isSlice len cap clo chi none).run P w = .ok (j.toNat, i.toNat, cap) w := by
  have h4 : 0 ≤ i := by omega
  have h5 : ((i.toNat : Nat) : Int) = i := by omega
  have hhi' : (match chi with | some v => Instr.sliceBound v cap (if isSlice then .sliceAcap else .sliceAlen) | none => pure len : Sem Nat).run P w = .ok i.toNat w := by
    rcases hhi.bound ki with ⟨rfl, rfl⟩ | ⟨kd, rfl⟩
    · simp
    · simp [Instr.sliceBound, asIntOf, h2, h4]
  have hlo' : ∀ c, (match clo with | some v => Instr.sliceBound v i.toNat c | none => pure 0 : Sem Nat).run P w = .ok j.toNat w := fun c => by
    rcases hlo.bound kj with ⟨rfl, rfl⟩ | ⟨kd, rfl⟩
    · simp
    · simp [Instr.sliceBound, asIntOf, h0, h5, h1]
  unfold Instr.sliceBounds
  cases chi <;> cases clo <;> simp at hhi' hlo' ⊢
  · exact ⟨by simpa using hlo', by simpa using hhi'⟩
  · rw [hhi']; have := hlo' .sliceB; simp [this]
  · rw [hhi']; simp; exact hlo'
  · rw [hhi']; have := hlo' .sliceB; simp [this]

theorem aslice_sound {t : TypeId} {x cx v : Value} {lo hi clo chi : Option Value} (k : aslice P h t x lo hi = some v) (hx : VRel α h.m x cx)
    (hlo : BRel α h.m lo clo) (hhi : BRel α h.m hi chi) : PureOut P α h.m w (Instr.sliceAt t cx clo chi none) v := by
  unfold aslice at k
  split at k
  · rename_i hu
    unfold strcut at k
    split at k
    · rename_i s
      cases hx
      cases ki : abound s.size hi with
      | none => simp [ki] at k
      | some i =>
      cases kj : abound 0 lo with
      | none => simp [ki, kj] at k
      | some j =>
      simp only [ki, kj, Option.bind_some] at k
      split at k
      · rename_i hc
        simp only [Option.some.injEq] at k; subst k
        have := run_bounds (P := P) (w := w) (len := s.size) (cap := s.size) false hlo hhi ki kj hc.1 hc.2.1 hc.2.2
        exact ⟨_, by simp [Instr.sliceAt, Instr.slice, run_und hu, this], .string _⟩
      · simp at k
    · simp at k
  · rename_i e hu
    cases hn : tsize P e with
    | none => simp [hn] at k
    | some n =>
    simp only [hn, Option.bind_some] at k
    unfold scut at k
    split at k
    · cases hx
      cases ki : abound (0 : Int) hi with
      | none => simp [ki] at k
      | some i =>
      cases kj : abound 0 lo with
      | none => simp [ki, kj] at k
      | some j =>
      simp only [ki, kj, Option.bind_some] at k
      split at k
      · rename_i hc
        obtain ⟨rfl, rfl⟩ := hc
        simp only [Option.some.injEq] at k; subst k
        have := run_bounds (P := P) (w := w) (len := 0) (cap := 0) true hlo hhi ki kj (by omega) (by omega) (by omega)
        exact ⟨_, by simp [Instr.sliceAt, Instr.slice, run_und hu, this, run_tsize hn], .snil⟩
      · simp at k
    · rename_i a len g
      cases ki : abound (len : Int) hi with
      | none => simp [ki] at k
      | some i =>
      cases kj : abound 0 lo with
      | none => simp [ki, kj] at k
      | some j =>
      simp only [ki, kj, Option.bind_some] at k
      obtain ⟨ca, cap, rfl, hcap, _, ro2, e2, g2, cc2, hm2, hl2⟩ := slice_at hx
      split at k
      · rename_i ro' e' g' c hg
        have hm := St.get_m hg
        rw [hm] at hm2; simp at hm2
        obtain ⟨rfl, rfl, rfl, rfl⟩ := hm2
        split at k
        · rename_i hc
          obtain ⟨rfl, hsp, h0, h1, h2⟩ := hc
          simp only [Option.some.injEq] at k; subst k
          have := run_bounds (P := P) (w := w) (len := len) (cap := cap) true hlo hhi ki kj h0 h1 (by omega)
          have hgs : g ≤ g' := by
            cases hx with
            | slice id off len gs ro e g c ca cap hm' hg' hc' hl' => rw [hm] at hm'; simp at hm'; obtain ⟨_, _, rfl, _⟩ := hm'; exact hg'
          refine ⟨_, by simp [Instr.sliceAt, Instr.slice, run_und hu, this, run_tsize hn]; rfl, ?_⟩
          have hex : ∃ ca', (if cap = j.toNat then some ca else some (ca.add (j.toNat * e'))) = some ca' ∧ (cap ≠ j.toNat → ca' = ca.add (j.toNat * e')) := by
            by_cases hq : cap = j.toNat
            · exact ⟨ca, by simp [hq], fun h => absurd hq h⟩
            · exact ⟨ca.add (j.toNat * e'), by simp [hq], fun _ => rfl⟩
          obtain ⟨ca', hca', hca''⟩ := hex
          rw [hca']
          have hab : aadd a (j.toNat * e') = ⟨a.block, a.off + j.toNat * e', none⟩ := by cases a; simp only at hsp; subst hsp; rfl
          rw [hab]
          refine .slice _ _ _ _ _ _ _ _ _ _ hm hgs (by omega) fun e1 => ?_
          obtain ⟨l1, l2, l3⟩ := hl2 e1.symm
          refine ⟨?_, fun hpos => ?_, ?_⟩
          · have : (i.toNat - j.toNat) * e' + j.toNat * e' ≤ len * e' := by rw [← Nat.add_mul]; exact Nat.mul_le_mul_right _ (by omega)
            omega
          · rw [hca'' (by omega), l2 (by omega), addr_add, Nat.add_assoc]
          · have : (cap - j.toNat) * e' + j.toNat * e' = cap * e' := by rw [← Nat.add_mul]; congr 1; omega
            omega
        · simp at k
      · simp at k
    · simp at k
  · simp at k

end
end Go.Am
