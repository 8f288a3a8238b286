/- larchlaw28.ShellTells returns true for every event (P28.3), and its argument reads afterwards as it read before: where the event holds at most 1,048,576 values and letters; the listed package-level variables as the program's text lays them (the card ties them). -/
import Derived.Test.YtgpeieohdelniaaGreatDoorShTellsRow
namespace Go.Am.Sh
open Go Go.RowKit Go.Am Go.Proofs Go.Proofs.YtgpeieohdelniaaGreatDoor
open Go.ChangeShapes Go.WideShapes Go.ChangeAt
set_option maxRecDepth 100000

theorem bulk_one {H : Type} (d : DataW H) : 1 ≤ Rows.uptoBulk d := by
  cases d with
  | lit l => cases l <;> simp [Rows.uptoBulk]
  | nil => simp [Rows.uptoBulk]
  | ptr d => simp [Rows.uptoBulk]
  | slice elems spare => simp [Rows.uptoBulk]
  | agg parts => simp [Rows.uptoBulk]
  | iface t d => simp [Rows.uptoBulk]
  | map entries => simp [Rows.uptoBulk]
  | held h => simp [Rows.uptoBulk]
theorem bulk_length {H : Type} (l : List (DataW H)) : l.length ≤ Rows.uptoBulkAll l := by
  induction l with
  | nil => simp [Rows.uptoBulkAll]
  | cons x r ih => have := bulk_one x; simp only [Rows.uptoBulkAll, List.length_cons]; omega

theorem tells_contract (H : Type) (enc : TypeId × Value → H) (W : World) (base : Nat) (args : Array Value) (ds gs : List (DataW H)) (before : List MemPlace) (F : Stop.Interp)
    (hval : ∀ (j : Nat) t v, Tryz.f4.params[j]? = some t → args[j]? = some v → Value.okWide Tryz.prog W .any base t v)
    (hW : DataW.Whole enc Tryz.prog Tryz.f4.params.toList Rows.shellTellsSpec.vars false W args.toList ds gs before) (hk : Rows.uptoSmall H (ds ++ gs) = true) (hL : laidMetH Tryz.prog Rows.shellTellsUptoRow.laid W) :
    Calls Tryz.prog 4 args W fun e W' => ∃ v, e = .returned v ∧ ((Rows.OpenSpec.upto Rows.shellTellsSpec).at F).post enc Tryz.prog Tryz.f4 false true false false W args v W' := by
  have htab : Tab W := tab_of_laid hL
  have hW' := hW
  obtain ⟨p, q, hA0, hV, rfl, hfz, hnd⟩ := hW
  have hA : DataW.TrodAll enc Tryz.prog W 0 (fun _ => true) true Tryz.f4.params.toList args.toList ds p := hA0
  rw [Tryz.params4] at hA hval
  obtain ⟨v0, vs0, d0, ds0, p0, q0, hargs, rfl, rfl, h0, r0⟩ := trodAll_cons hA
  obtain ⟨rfl, rfl, rfl⟩ := trodAll_nil r0
  obtain rfl : args = #[v0] := by cases args; simp_all
  obtain ⟨rfl, rfl⟩ := trodVars_none hV
  have kept := h0
  have lt0 : ∀ x ∈ p0, x.block < W.heap.size := by obtain ⟨m, hm⟩ := h0; exact DataW.trod_lt m _ _ _ hm
  obtain ⟨cs, rfl, hsz⟩ := okWide_struct Tryz.underlying41 (hval 0 41 v0 rfl rfl)
  obtain ⟨fuel, hf⟩ := h0
  rw [cells41] at hsz
  obtain ⟨l⟩ := cs
  match l, hsz with
  | [c0, c1, c2, c3, c4, c5, c6, c7, c8, c9], _ =>
    obtain ⟨y0, y1, y2, y3, n, hd, _, t0, t1, t2, t3⟩ := Joins.trod_struct4 Tryz.underlying41 hf
    simp only [Value.cells, cells3, cells4, cells37, cells39, List.drop, List.take] at t0 t1 t2 t3
    obtain ⟨z0, z1, z2, z3, n2, hd2, _, u0, u1, u2, u3⟩ := Joins.trod_struct4 Tryz.underlying37 t2
    obtain ⟨x0, x1, x2, x3, n3, hd3, _, s0, s1, s2, s3⟩ := Joins.trod_struct4 Tryz.underlying39 t3
    simp only [cells3, cells4, cells23, List.drop, List.take] at u0 u1 u2 u3 s0 s1 s2 s3
    obtain ⟨tt, e0, _, w0⟩ := DataW.trod_int Tryz.underlying3 t0
    obtain ⟨ret, e1, _⟩ := DataW.trod_bool Tryz.underlying4 t1
    obtain ⟨k, e2, _, w2⟩ := DataW.trod_int Tryz.underlying3 u0
    obtain ⟨a, e3, _, w3⟩ := DataW.trod_int Tryz.underlying3 u1
    obtain ⟨b, e4, _, w4⟩ := DataW.trod_int Tryz.underlying3 u2
    obtain ⟨c, e5, _, w5⟩ := DataW.trod_int Tryz.underlying3 u3
    obtain ⟨ok, e6, _⟩ := DataW.trod_bool Tryz.underlying4 s0
    obtain ⟨rk, e7, _, w7⟩ := DataW.trod_int Tryz.underlying3 s1
    obtain ⟨rv, e8, _, w8⟩ := DataW.trod_int Tryz.underlying3 s2
    obtain ⟨sa, len, cap, bk, o, ps, e9, q1, q2, q3, q4, ⟨spare, q5⟩, q6, q7⟩ := open_pairs s3
    simp only [List.cons.injEq, and_true] at e0 e1 e2 e3 e4 e5 e6 e7 e8 e9
    subst e0 e1 e2 e3 e4 e5 e6 e7 e8 e9
    have hlen : len ≤ 2 ^ 40 := by
      have hb : Rows.uptoBulkAll ([d0] ++ []) ≤ 1048576 := of_decide_eq_true hk
      have hd' : d0 = .agg [y0.1, y1.1, y2.1, y3.1] := (Prod.mk.inj hd).1
      have hd3' : y3.1 = .agg [x0.1, x1.1, x2.1, x3.1] := by rw [hd3]
      simp only [hd', hd3', List.append_nil, Rows.uptoBulkAll, Rows.uptoBulk] at hb
      rcases q5 with q5 | ⟨_, q5⟩
      · rw [q5] at hb
        simp only [Rows.uptoBulk] at hb
        have := bulk_length (ps.map fun p => (.agg [.lit (.int .i64 p.1), .lit (.int .i64 p.2)] : DataW H))
        rw [List.length_map] at this
        omega
      · rw [q5] at q1; simp at q1; omega
    refine (tells_calls htab (in64_of w0) (in64_of w2) (in64_of w3) (in64_of w4) (in64_of w5) (in64_of w7) (in64_of w8) q1 q2 q3 q4 q6 q7 hlen).mono fun e W' ⟨he, bel⟩ => ?_
    subst he
    exact ⟨_, rfl, _, _, _, [], _, [], hW', trodAll_mk1 (shut_bool Tryz.underlying4 _), trodAll_cons_mk (Below.trod laidOut (by kernel_rfl) (of_decide_eq_true (by kernel_rfl)) kept bel lt0) trodAll_mk0, rfl, bel.frame _, fun h => by cases h⟩

/-! the witness: an event of zeros -/
def zeroEvent : Value := .agg #[.int .i64 0, .bool false, .int .i64 0, .int .i64 0, .int .i64 0, .int .i64 0, .bool false, .int .i64 0, .int .i64 0, .slice none 0 0]
theorem tells_reads (os : Os) {H : Type} (enc : TypeId × Value → H) : ∃ places, DataW.whole enc Tryz.prog ((laidWorld os).forCall (fun _ _ => 0) ⟨#[], #[zeroEvent], []⟩).memory Tryz.f4.params.toList Rows.shellTellsSpec.vars false #[zeroEvent].toList 8 =
    some ([.agg [.lit (.int .i64 0), .lit (.bool false), .agg [.lit (.int .i64 0), .lit (.int .i64 0), .lit (.int .i64 0), .lit (.int .i64 0)], .agg [.lit (.bool false), .lit (.int .i64 0), .lit (.int .i64 0), .nil]]], [], places) :=
  ⟨[], by kernel_rfl⟩

theorem tells_lifted (os : Os) (started : os.Started) (H : Type) (enc : TypeId × Value → H) (F : Stop.Interp) :
    ReturnsInHanded {} Tryz.checked os 4 .any ((Rows.OpenSpec.upto Rows.shellTellsSpec).preRow enc Tryz.prog Tryz.f4 Rows.shellTellsUptoRow.domain false Rows.shellTellsUptoRow.laid)
      (((Rows.OpenSpec.upto Rows.shellTellsSpec).at F).post enc Tryz.prog Tryz.f4 false true false false) := by
  obtain ⟨places, hx⟩ := tells_reads os enc
  refine returnsInHanded_of_row (C := Tryz.checked) (s := Rows.OpenSpec.upto Rows.shellTellsSpec) own started (by kernel_rfl) Tryz.func4
    (witness_row_atRef (enc := enc) (C := Tryz.checked) false (laidWorld os) #[zeroEvent] rfl (by kernel_rfl) (by kernel_rfl) (by kernel_rfl)
      (OpenSpec.preRow_of_cond 8 hx (by kernel_rfl) (fun k hk => by cases hk; kernel_rfl) (by kernel_rfl) (laid_met os _))) ?_
  intro W base args ds gs before hval hW _ hcond _ hL _ _
  exact tells_contract H enc W base args ds gs before F hval hW (hcond _ rfl) hL
end Go.Am.Sh
