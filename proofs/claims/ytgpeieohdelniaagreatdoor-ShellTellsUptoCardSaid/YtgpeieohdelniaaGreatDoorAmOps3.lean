/- Slices: grown, copied, cut; addresses; fields. -/
import Derived.Test.YtgpeieohdelniaaGreatDoorAmOps2
namespace Go.Am
open Go Go.RowKit

section
variable {P : Program} {α : Corr} {h h' : St} {B : Nat} {w : World}

theorem World.drew_heap (w : World) : w.drew.heap = w.heap := rfl

/-- A run of append, within the capacity. -/
theorem run_append_fits {t u ty e : TypeId} {i : TypeInfo} {d : TypeDesc} (ht : P.underlying t = some (.slice e)) (hi : P.info? e = some i) (hu : P.underlying u = some d) (hd : (∃ e', d = .slice e') ∨ d = .string)
    {base : Option Addr} {sLen sCap n : Nat} {x : Value} {news : List Value} (hx : ∀ w, (Builtin.lenOf x).run P w = .ok n w) (hn : (Builtin.firstCells i.size n x).run P w = .ok news.toArray w) (hfit : sLen + n ≤ sCap) :
    (Builtin.append_ #[t, u] ty #[.slice base sLen sCap, x]).run P w =
      (match base with | some a => (storeCells (a.add (sLen * i.size)) news).run P w | none => .ok () w).andThen fun _ w' => .ok (.slice base (sLen + n) sCap) w' := by
  rcases hd with ⟨e', rfl⟩ | rfl <;> cases base <;>
    simp [Builtin.append_, run_und ht, run_und hu, sizeOf, run_info hi, hx, hn, hfit]

/-- A run of append, beyond it. -/
theorem run_append_grows {t u ty e : TypeId} {i : TypeInfo} {d : TypeDesc} {z : Value} (ht : P.underlying t = some (.slice e)) (hi : P.info? e = some i) (hz : i.zero = some z) (hu : P.underlying u = some d) (hd : (∃ e', d = .slice e') ∨ d = .string)
    {base : Option Addr} {sLen sCap n : Nat} {x : Value} {olds news : List Value} (hx : ∀ w, (Builtin.lenOf x).run P w = .ok n w) (hn : (Builtin.firstCells i.size n x).run P w.drew = .ok news.toArray w.drew)
    (ho : (Builtin.firstCells i.size sLen (.slice base sLen sCap)).run P w.drew = .ok olds.toArray w.drew) (hg : sCap < sLen + n) (h63 : sLen + n ≤ 2 ^ 47) (hb : (sLen + n) * i.bytes ≤ 2 ^ 47) :
    (Builtin.append_ #[t, u] ty #[.slice base sLen sCap, x]).run P w =
      .ok (.slice (some ⟨w.heap.size, 0, none⟩) (sLen + n) (grownCap w (sLen + n) sCap e))
        { w.drew with heap := w.drew.heap.push (.cells ((olds ++ news).toArray ++ Builtin.zeroCells z.cells (grownCap w (sLen + n) sCap e - (sLen + n))) e) } := by
  have ea : (olds ++ news).toArray ++ Builtin.zeroCells z.cells (grownCap w (sLen + n) sCap e - (sLen + n)) = olds.toArray ++ (news.toArray ++ Builtin.zeroCells z.cells (grownCap w (sLen + n) sCap e - (sLen + n))) := by apply Array.ext'; simp only [Array.toList_append, List.append_assoc]
  rw [ea]
  have hn' : ¬ (sLen + n ≤ sCap) := by omega
  have h63' : ¬ (9223372036854775807 < ((sLen : Int) + (n : Int))) := by omega
  have h48' : ¬ (281474976710656 < Builtin.nextslicecap (sLen + n) sCap * i.bytes) := by have := growslice_fits hg (by simpa using hb); omega
  rcases hd with ⟨e', rfl⟩ | rfl <;>
    simp [Builtin.append_, run_und ht, run_und hu, sizeOf, run_info hi, zeroValue, hz, hx, hn, ho, hn', h63', h48', Question.forced, newRow, grownCap] <;> rfl

/-- An object goes to a new block. -/
theorem HRel.moved {m : Mem} (H : HRel α m B w) {id : Nat} {o o' : AObj} (hm : m id = some o) (hro : o.ro = false) (hro' : o'.ro = false) (b : Obj) (r : Nat) {hw : World}
    (hwd : hw.heap = w.heap ∧ hw.os = w.os ∧ hw.tape = w.tape ∧ hw.output = w.output)
    (hs : stepOk α (α.at id w.heap.size 0 r) id o o')
    (ho : ∀ m', Le α m (α.at id w.heap.size 0 r) m' → ORel (α.at id w.heap.size 0 r) m' B { hw with heap := hw.heap.push b } id o') :
    HRel (α.at id w.heap.size 0 r) (upd m id o') B { hw with heap := hw.heap.push b } ∧ Le α m (α.at id w.heap.size 0 r) (upd m id o') ∧ Below B w { hw with heap := hw.heap.push b } := by
  obtain ⟨e1, e2, e3, e4⟩ := hwd
  have hle : Le α m (α.at id w.heap.size 0 r) (upd m id o') := fun j q hq => by
    by_cases hj : j = id
    · subst hj; rw [hm] at hq; simp at hq; subst hq; exact ⟨o', upd_self .., hs⟩
    · refine ⟨q, by rw [upd_ne _ _ hj]; exact hq, ?_⟩
      cases q <;> simp [stepOk, Corr.at_blk_ne _ _ _ _ hj, Corr.at_off_ne _ _ _ _ hj, Corr.at_room_ne _ _ _ _ hj]
  have hlow := H.low
  refine ⟨⟨fun j q hq => ?_, fun i j a c ha hc hne hr => ?_, by simp [e1]; omega⟩, hle, ⟨e2, e3, e4, by simp [e1], fun k hk => ?_⟩⟩
  · by_cases hj : j = id
    · subst hj; rw [upd_self] at hq; simp at hq; subst hq; exact ho _ hle
    · rw [upd_ne _ _ hj] at hq
      have hO := H.obj j q hq
      refine hO.keep hle (Corr.at_blk_ne _ _ _ _ hj) (Corr.at_off_ne _ _ _ _ hj) (Corr.at_room_ne _ _ _ _ hj) ?_
      have := hO.lt
      simp only [e1, Array.getElem?_push]
      rw [if_neg (by omega)]
  · have get : ∀ k x, upd m id o' k = some x → ∃ y, m k = some y ∧ y.ro = x.ro := fun k x hx => by
      by_cases hk : k = id
      · subst hk; rw [upd_self] at hx; simp at hx; subst hx; exact ⟨o, hm, hro.trans hro'.symm⟩
      · rw [upd_ne _ _ hk] at hx; exact ⟨x, hx, rfl⟩
    obtain ⟨a', ha', ea⟩ := get i a ha
    obtain ⟨c', hc', _⟩ := get j c hc
    have l1 := (H.obj i a' ha').lt
    have l2 := (H.obj j c' hc').lt
    by_cases hi : i = id
    · have hj : j ≠ id := fun e => hne (hi.trans e.symm)
      subst hi; rw [Corr.at_blk, Corr.at_blk_ne _ _ _ _ hj]; omega
    · rw [Corr.at_blk_ne _ _ _ _ hi]
      by_cases hj : j = id
      · subst hj; rw [Corr.at_blk]; omega
      · rw [Corr.at_blk_ne _ _ _ _ hj]; exact H.sep i j a' c' ha' hc' hne (ea.trans hr)
  · simp only [e1, Array.getElem?_push]; rw [if_neg (by omega)]

theorem tinfo {t : TypeId} {n b : Nat} {z : Value} (hn : tsize P t = some n) (hb : tbytes P t = some b) (hz : tzero P t = some z) : ∃ i, P.info? t = some i ∧ i.size = n ∧ i.bytes = b ∧ i.zero = some z := by
  unfold tsize at hn; unfold tbytes at hb; unfold tzero at hz
  cases hi : P.info? t with
  | none => simp [hi] at hn
  | some i =>
    simp only [hi, Option.map_some, Option.some.injEq] at hn hb hz
    refine ⟨i, rfl, hn, hb, ?_⟩
    split at hz
    · rename_i v hv; split at hz
      · simp at hz; rw [hv, hz]
      · simp at hz
    · simp at hz

theorem all_one1 {vs cvs : List Value} {m : Mem} (hR : LRel α m vs cvs) (h1 : vs.all one1 = true) : ∀ u ∈ cvs, one1 u = true := fun u hu => by
  obtain ⟨i, hi, rfl⟩ := List.getElem_of_mem hu
  rw [List.all_eq_true] at h1
  have hi' : i < vs.length := by rw [hR.1]; exact hi
  obtain ⟨x, hx, r⟩ := hR.2 i vs[i] (by rw [List.getElem?_eq_getElem hi'])
  rw [List.getElem?_eq_getElem hi] at hx; simp only [Option.some.injEq] at hx
  rw [hx, r.one1]; exact h1 _ (List.getElem_mem _)

theorem aappend_sound {t u ty : TypeId} {d : TypeDesc} {s x cs cx v : Value} (k : aappend P h t s x = some (v, h')) (H : HRel α h.m B w) (hf : h.next < h'.next → h.m h.next = none)
    (hu : P.underlying u = some d) (hd : (∃ e', d = .slice e') ∨ d = .string)
    (hs : VRel α h.m s cs) (hx : VRel α h.m x cx) : ValOut P α h B w (Builtin.append_ #[t, u] ty #[cs, cx]) v h' := by
  unfold aappend at k
  cases he : telem P t with
  | none => simp [he] at k
  | some e =>
  cases hn : tsize P e with
  | none => simp [he, hn] at k
  | some n =>
  cases hb : tbytes P e with
  | none => simp [he, hn, hb] at k
  | some b =>
  cases hz : tzero P e with
  | none => simp [he, hn, hz, hb] at k
  | some z =>
  simp only [he, hn, hb, hz, Option.bind_some] at k
  split at k
  case isFalse => simp at k
  rename_i hc0
  obtain ⟨c0, c1⟩ := hc0
  unfold sapp at k
  cases hk : slen x with
  | none => simp [hk] at k
  | some kk =>
  cases hr : rowOf h n kk x with
  | none => simp [hk, hr] at k
  | some new =>
  simp only [hk, hr, Option.bind_some] at k
  obtain ⟨i, hi, rfl, rfl, hiz⟩ := tinfo hn hb hz
  obtain ⟨ncs, hnR, hnl, hnrun⟩ := rowOf_sound (P := P) hr H hx hk (Nat.le_refl _)
  have hlen := slen_sound (P := P) hk hx
  have ht := telem_und he
  have hnl' : ncs.length = kk * i.size := by rw [← hnR.1]; exact hnl
  cases s with
  | slice a len g =>
    cases a with
    | none =>
      cases hs
      simp only at k
      split at k
      · rename_i hk0; subst hk0
        simp only [Option.some.injEq, Prod.mk.injEq] at k
        obtain ⟨rfl, rfl⟩ := k
        have := run_append_fits (base := none) (sLen := 0) (sCap := 0) (ty := ty) ht hi hu hd hlen (hnrun w rfl) (by omega)
        exact ⟨α, w, _, by rw [this]; rfl, .snil, H, Le.refl _ _, Below.refl _ _⟩
      · rename_i hk0
        split at k
        · rename_i hc
          obtain ⟨c2, c3⟩ := hc
          simp only [Option.some.injEq, Prod.mk.injEq] at k
          obtain ⟨rfl, rfl⟩ := k
          have hrun := run_append_grows (base := none) (sLen := 0) (sCap := 0) (ty := ty) (olds := []) ht hi hiz hu hd hlen (hnrun w.drew rfl) (by simp [Builtin.firstCells]) (by omega) (by omega) (by simpa using c3)
          have hge := grownCap_ge w kk 0 e
          simp only [Nat.zero_add, List.nil_append] at hrun
          have hmul : kk * i.size ≤ grownCap w kk 0 e * i.size := Nat.mul_le_mul_right _ hge
          have hsize : (ncs.toArray ++ Builtin.zeroCells z.cells (grownCap w kk 0 e - kk)).size = grownCap w kk 0 e * i.size := by
            rw [Array.size_append, size_zeroCells, List.size_toArray, hnl', c1, Nat.sub_mul]; omega
          have := new_arr_sound (w := w) (e := i.size) (c := new) (cs := ncs.toArray ++ Builtin.zeroCells z.cells (grownCap w kk 0 e - kk)) e (grownCap w kk 0 e * i.size) kk (grownCap w kk 0 e) w.drew ⟨rfl, rfl, rfl, rfl⟩ H (hf (by simp [St.new]))
            (by simp only [Array.toList_append]; rw [List.take_append_of_le_length (by rw [hnR.1]; exact Nat.le_refl _), List.take_of_length_le (by rw [hnR.1]; exact Nat.le_refl _)]; exact hnR)
            (by rw [hnl]; exact hmul) (by rw [hsize]; exact Nat.le_refl _) (by rw [hnl]; exact Nat.le_refl _) (Nat.le_refl _) hge
          exact ⟨_, _, _, hrun, this.2.2.2, this.1, this.2.1, this.2.2.1⟩
        · simp at k
    | some a =>
      simp only at k
      split at k
      · rename_i hk0; subst hk0
        simp only [Option.some.injEq, Prod.mk.injEq] at k
        obtain ⟨rfl, rfl⟩ := k
        have hs0 := hs
        obtain ⟨ca, cap, rfl, hcap, _⟩ := slice_at hs
        have hncs : ncs = [] := by rw [← List.length_eq_zero_iff]; omega
        subst hncs
        have := run_append_fits (base := some ca) (sLen := len) (sCap := cap) (ty := ty) ht hi hu hd hlen (hnrun w rfl) (by omega)
        exact ⟨α, w, _, by rw [this]; rfl, by simpa using hs0, H, Le.refl _ _, Below.refl _ _⟩
      · rename_i hk0
        split at k
        · rename_i hc
          obtain ⟨c2, c3, c4, c5, c6⟩ := hc
          split at k
          · rename_i e' g' c hg
            split at k
            · rename_i hc'
              obtain ⟨rfl, rfl, hfit⟩ := hc'
              simp only [Option.some.injEq, Prod.mk.injEq] at k
              obtain ⟨rfl, rfl⟩ := k
              have hm := St.get_m hg
              have hsold : sliceRow h i.size len (.slice (some a) len g') = some ((c.drop a.off).take (len * i.size)) := by
                simp only [sliceRow, Nat.le_refl, if_true]
                by_cases h0 : len = 0
                · subst h0; simp
                · rw [if_neg h0, hg]; simp [hfit, c6]
              obtain ⟨ocs, hoR, hol, horun⟩ := sliceRow_sound (P := P) hsold H hs
              obtain ⟨ca, cap, rfl, hcap, _, ro2, e2, g2, cc2, hm2, hl2⟩ := slice_at hs
              rw [hm] at hm2; simp at hm2
              obtain ⟨rfl, rfl, rfl, rfl⟩ := hm2
              obtain ⟨hl1, hl2, hl3⟩ := hl2 rfl
              obtain ⟨cur, T, fr, hbk, hcr, hro⟩ := H.obj _ _ hm
              obtain ⟨rfl, hB, hroom1, hroom2⟩ := hro rfl
              have hneed : (len + kk) * i.size = len * i.size + kk * i.size := Nat.add_mul _ _ _
              have hclen : ((c.drop a.off).take (len * i.size) ++ new).length = (len + kk) * i.size := by rw [List.length_append, hol, hnl, hneed]
              by_cases hroom : len + kk ≤ cap
              · -- in place
                have hca := hl2 (by omega)
                subst hca
                have hmul : (len + kk) * i.size ≤ cap * i.size := Nat.mul_le_mul_right _ hroom
                have hst := run_storeCells_at P (α.blk a.block) (α.off a.block + a.off + len * i.size) T ncs 0 cur w hbk (by rw [hnl']; omega) (fun v hv => oneCell_of (all_one1 hnR c2 v hv))
                have hrun := run_append_fits (base := some ⟨α.blk a.block, α.off a.block + a.off, none⟩) (sLen := len) (sCap := cap) (ty := ty) ht hi hu hd hlen (hnrun w rfl) hroom
                simp only [addr_add, hst, Result.andThen_ok] at hrun
                have he' : cur.toList.take (α.off a.block + a.off + len * i.size + 0) ++ ncs ++ cur.toList.drop (α.off a.block + a.off + len * i.size + 0 + ncs.length) = splice cur.toList (α.off a.block + a.off + len * i.size) ncs := by simp [splice]
                rw [he'] at hrun
                have hT := setRow_turned (cur' := (splice cur.toList (α.off a.block + a.off + len * i.size) ncs).toArray) hbk
                have hspl : α.off a.block + a.off + len * i.size + ncs.length ≤ cur.toList.length := by rw [hnl', Array.length_toList]; omega
                have hcsz : (splice cur.toList (α.off a.block + a.off + len * i.size) ncs).toArray.size = cur.size := by rw [List.size_toArray, splice_length hspl, Array.length_toList]
                have hcR : ∀ α' m', Le α h.m α' m' → CRel α' m' ((c.drop a.off).take (len * i.size) ++ new) (splice cur.toList (α.off a.block + a.off + len * i.size) ncs).toArray (α.off a.block + a.off) := fun α' m' hle j u hj => by
                  rw [List.getElem?_toArray, splice_get hspl]
                  rw [List.getElem?_append] at hj
                  split at hj
                  · rename_i hlt
                    rw [hol] at hlt
                    rw [if_neg (by omega)]
                    rw [List.getElem?_take, if_pos hlt, List.getElem?_drop] at hj
                    obtain ⟨x, hx, r⟩ := hcr _ _ hj
                    exact ⟨x, by rw [Array.getElem?_toList, ← hx]; congr 1; omega, r.mono hle⟩
                  · rename_i hge
                    rw [hol] at hge hj
                    obtain ⟨x, hx, r⟩ := hnR.2 _ _ hj
                    have hxl := (List.getElem?_eq_some_iff.1 hx).1
                    rw [if_pos (by omega)]
                    exact ⟨x, by rw [← hx]; congr 1; omega, r.mono hle⟩
                have := H.turned (o' := .arr false i.size (g' + 1) ((c.drop a.off).take (len * i.size) ++ new)) hm rfl rfl hT (α.off a.block + a.off) (α.room a.block - a.off)
                  ⟨rfl, rfl, by omega, fun e => absurd e (by omega)⟩
                  (fun m' hle => ⟨_, T, (0, 0), by rw [Corr.at_blk]; exact hT.here, by rw [Corr.at_off]; exact hcR _ _ hle, fun _ => ⟨rfl, by rw [Corr.at_blk]; exact hB, by rw [Corr.at_room, hclen]; omega, by rw [Corr.at_off, Corr.at_room, hcsz]; omega⟩⟩)
                refine ⟨_, _, _, hrun, ?_, this.1, this.2, hT.below hB⟩
                refine VRel.slice (α := α.at a.block (α.blk a.block) (α.off a.block + a.off) (α.room a.block - a.off)) a.block 0 (len + kk) (g' + 1) false i.size (g' + 1) _ _ cap (upd_self _ _ _) (Nat.le_refl _) hroom fun _ => ⟨by rw [hclen]; omega, fun _ => ?_, ?_⟩
                · rw [Corr.at_blk, Corr.at_off]; rfl
                · rw [Corr.at_room]; omega
              · -- in a new block
                have hgt : cap < len + kk := by omega
                have hrun := run_append_grows (base := some ca) (sLen := len) (sCap := cap) (ty := ty) ht hi hiz hu hd hlen (hnrun w.drew rfl) (horun w.drew rfl) hgt c3 c4
                have hge := grownCap_ge w (len + kk) cap e
                generalize grownCap w (len + kk) cap e = gc at hrun hge
                have hmul : (len + kk) * i.size ≤ gc * i.size := Nat.mul_le_mul_right _ hge
                have hol' : ocs.length = len * i.size := by rw [← hoR.1]; exact hol
                have hsize : ((ocs ++ ncs).toArray ++ Builtin.zeroCells z.cells (gc - (len + kk))).size = gc * i.size := by
                  rw [Array.size_append, size_zeroCells, List.size_toArray, List.length_append, hol', hnl', c1, Nat.sub_mul]; omega
                have hcR : ∀ α' m', Le α h.m α' m' → CRel α' m' ((c.drop a.off).take (len * i.size) ++ new) ((ocs ++ ncs).toArray ++ Builtin.zeroCells z.cells (gc - (len + kk))) 0 := fun α' m' hle j u hj => by
                  obtain ⟨x, hx, r⟩ := (hoR.append hnR).2 j u hj
                  have hjl := (List.getElem?_eq_some_iff.1 hx).1
                  exact ⟨x, by rw [Nat.zero_add, Array.getElem?_append_left (by simpa using hjl), List.getElem?_toArray]; exact hx, r.mono hle⟩
                have := H.moved (o' := .arr false i.size (g' + 1) ((c.drop a.off).take (len * i.size) ++ new)) hm rfl rfl (.cells ((ocs ++ ncs).toArray ++ Builtin.zeroCells z.cells (gc - (len + kk))) e) (gc * i.size) (hw := w.drew) ⟨rfl, rfl, rfl, rfl⟩
                  ⟨rfl, rfl, by omega, fun e => absurd e (by omega)⟩
                  (fun m' hle => ⟨_, e, (0, 0), by rw [Corr.at_blk]; show (w.heap.push _)[w.heap.size]? = _; simp; rfl, by rw [Corr.at_off]; exact hcR _ _ hle, fun _ => ⟨rfl, by rw [Corr.at_blk]; exact H.low, by rw [Corr.at_room, hclen]; exact hmul, by rw [Corr.at_off, Corr.at_room, hsize]; omega⟩⟩)
                refine ⟨_, _, _, hrun, ?_, this.1, this.2.1, this.2.2⟩
                refine VRel.slice (α := α.at a.block w.heap.size 0 (gc * i.size)) a.block 0 (len + kk) (g' + 1) false i.size (g' + 1) _ _ gc (upd_self _ _ _) (Nat.le_refl _) hge fun _ => ⟨by rw [hclen]; omega, fun _ => ?_, ?_⟩
                · rw [Corr.at_blk, Corr.at_off]
                · rw [Corr.at_room]; omega
            · simp at k
          · simp at k
        · simp at k
  | _ => simp at k

end
end Go.Am
