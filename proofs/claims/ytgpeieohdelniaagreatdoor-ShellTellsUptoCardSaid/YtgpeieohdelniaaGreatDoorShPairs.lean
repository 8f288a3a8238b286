/- Shell: pairs (a strings.Builder in a loop), by the library's contracts. -/
import Derived.Test.YtgpeieohdelniaaGreatDoorShLib3
import Derived.Test.YtgpeieohdelniaaGreatDoorAmUse
import Derived.LoopN
import Derived.Lib.ItoaLen
namespace Go.Am.Sh
open Go Go.RowKit Go.Am Go.Proofs
set_option maxRecDepth 100000
abbrev Tab (w : World) : Prop := Lib.TabIs Tryz.prog w "internal/strconv.uint64pow10" .u64 Lib.pow10Tab
theorem Tab.stays {w w' : World} (h : Tab w) (hb : Below w.heap.size w w') : Tab w' := Joins.tab_stays pow10_global h hb (Nat.le_refl _)

theorem itoa_len {x : Int} (hx : in64 x) : (Lib.itoa x).length ≤ 21 := Lib.itoa_length_le x hx.1 hx.2
def pairL (k v : Int) : List UInt8 := Lib.itoa k ++ 58 :: Lib.itoa v
theorem pairL_len {k v : Int} (hk : in64 k) (hv : in64 v) : (pairL k v).length ≤ 43 := by
  have := itoa_len hk; have := itoa_len hv; simp [pairL]; omega
def pairsL (ps : List (Int × Int)) : List UInt8 := (ps.map fun p => 32 :: pairL p.1 p.2).flatten

theorem hidS {p : Prop} (h : p) : Hid p := h
noncomputable def fnP (f : FuncId) : Option FInfo := match f with
  | 34 => some ⟨Tryz.f34, [], []⟩
  | 36 => some ⟨Tryz.f36, [], []⟩
  | _ => none
noncomputable def EP : Env := ⟨fnP, fun f => match f with
  | 43 => some xItoa
  | _ => none⟩
theorem callSP {W0 : World} (htab : Tab W0) (n : Nat) : CallS W0 Tryz.prog (acall adraw EP Tryz.prog n) := by
  refine acall_sound (adraw_sound Tryz.laysJoin.mixed) ⟨fun f i h => ?_, fun f g h => ?_⟩ n
  · simp only [EP] at h
    unfold fnP at h
    split at h
    · obtain rfl := Option.some.inj h; exact ⟨Tryz.func34, by kernel_rfl⟩
    · obtain rfl := Option.some.inj h; exact ⟨Tryz.func36, by kernel_rfl⟩
    · simp at h
  · simp only [EP] at h
    split at h
    · obtain rfl := Option.some.inj h; exact xItoa_sound htab
    · simp at h
theorem E34 (n : Nat) (x0 : Int) (h : St) : acall adraw EP Tryz.prog (n + 1) 34 [(.int .i64 x0)] h =
 (obind (acall adraw EP Tryz.prog n 43 [(.int .i64 x0)] h) fun k0 =>
 (obind (vStr k0.1) fun t1 =>
 (some ((.string t1), k0.2)))) := by kernel_rfl
theorem E36 (n : Nat) (x0 : Int) (x1 : Int) (h : St) : acall adraw EP Tryz.prog (n + 1) 36 [(.int .i64 x0), (.int .i64 x1)] h =
 (obind (acall adraw EP Tryz.prog n 34 [(.int .i64 x0)] h) fun k0 =>
 (obind (vStr k0.1) fun t1 =>
 (obind (scat t1 ⟨#[58]⟩) fun t2 =>
 (obind (acall adraw EP Tryz.prog n 34 [(.int .i64 x1)] k0.2) fun k3 =>
 (obind (vStr k3.1) fun t4 =>
 (obind (scat t2 t4) fun t5 =>
 (some ((.string t5), k3.2)))))))) := by kernel_rfl
theorem E43 (n : Nat) (x : Int) (h : St) (hx : in64 x) : acall adraw EP Tryz.prog (n + 1) 43 [.int .i64 x] h = some (.string (bs (Lib.itoa x)), h) := by
  have : acall adraw EP Tryz.prog (n + 1) 43 [.int .i64 x] h = xItoa [.int .i64 x] h := by kernel_rfl
  rw [this]
  have h1 : inI64 x = true := by simp only [inI64, Bool.and_eq_true, decide_eq_true_eq]; exact hx
  show bcond (inI64 x) _ none = _
  rw [h1]; rfl
theorem E34' (n : Nat) (x : Int) (h : St) (hx : in64 x) : acall adraw EP Tryz.prog (n + 2) 34 [.int .i64 x] h = some (.string (bs (Lib.itoa x)), h) := by
  rw [E34, E43 _ _ _ hx]; rfl
theorem E36' (n : Nat) (k v : Int) (h : St) (hk : in64 k) (hv : in64 v) : acall adraw EP Tryz.prog (n + 3) 36 [.int .i64 k, .int .i64 v] h = some (.string (bs (pairL k v)), h) := by
  have := itoa_len hk; have := itoa_len hv
  rw [E36, E34' _ _ _ hk]
  simp only [obind_some, vStr_str]
  rw [show (⟨#[58]⟩ : ByteArray) = bs [58] from rfl, scat_bs (by simp; omega)]
  simp only [obind_some]
  rw [E34' _ _ _ hv]
  simp only [obind_some, vStr_str]
  rw [scat_bs (by simp; omega)]
  simp [obind_some, pairL]

def h00 : St := ⟨fun _ => none, 0, fun _ => true, 0⟩
theorem rrel0 {U : Nat} (w : World) : RRel w ⟨fun _ => 0, fun _ => 0, fun _ => 0⟩ (fun _ => none) w.heap.size U U ⟨fun _ => none, 0, fun _ => true, 0⟩ w :=
  ⟨⟨fun id o h => by simp at h, fun i j a b h => by simp at h, Nat.le_refl _⟩, fun id o h => by simp [St.get] at h, fun id o h => by simp [St.get] at h, fun _ _ _ => rfl, fun _ _ => rfl, Nat.le_refl _, fun _ _ => rfl, Nat.le_refl _, ⟨Nat.le_refl _, Below.refl _ _⟩⟩
/-- A call with flat arguments, evaluated on an empty heap. -/
theorem calls_flat {P : Program} {w : World} {callf : FuncId → AFn} (CS : CallS w P callf) {f : FuncId} {args : List Value} {v : Value} {h' : St} (e : callf f args h00 = some (v, h')) (ha : ∀ v ∈ args, flatN 4 v = true) (hv : flatN 4 v = true)
    {fn : Func} {c : Code} (hf : P.funcs[f]? = some fn) (hb : fn.body = some c) (hn : fn.name ≠ "runtime.NumGoroutine") :
    Calls P f args.toArray w fun e w' => e = .returned v ∧ Below w.heap.size w w' := by
  obtain ⟨hle, h⟩ := CS _ _ _ _ _ e
  rcases h _ _ w.heap.size h'.next h'.next w args.toArray (rrel0 w) (Nat.le_refl _) (by simpa using LRel.flat ha) with ⟨cv, α', m', M', w', h1, _⟩ | ⟨_, h2⟩
  · rw [enters hf hb hn] at h1; simp at h1
  · refine h2.mono fun e w' ⟨cv, α', m', M', he, hr, p⟩ => ⟨?_, p.below⟩
    rw [he, flat_eq hr 4 hv]
theorem t36 (w : World) (htab : Tab w) (k v : Int) (hk : in64 k) (hv : in64 v) : Calls Tryz.prog 36 #[.int .i64 k, .int .i64 v] w fun e w' => e = .returned (.string (bs (pairL k v))) ∧ Below w.heap.size w w' :=
  calls_flat (callSP htab 3) (E36' 0 k v h00 hk hv) (by simp [flatN]) rfl Tryz.func36 rfl (by decide)

theorem pairsL_take {ps : List (Int × Int)} {k : Nat} {p : Int × Int} (h : ps[k]? = some p) : pairsL (ps.take (k + 1)) = pairsL (ps.take k) ++ 32 :: pairL p.1 p.2 := by
  rw [List.take_add_one, h]; simp [pairsL]
theorem pairsL_le (ps : List (Int × Int)) (k : Nat) : (pairsL (ps.take k)).length ≤ (pairsL ps).length := by
  conv => rhs; rw [← List.take_append_drop k ps]
  simp only [pairsL, List.map_append, List.flatten_append, List.length_append]
  omega
theorem builderAt_stays {T e : TypeId} {B b : Nat} {p : Value} {bs : List Value} {w w' : World} (h : Lib.BuilderAt T e B b p bs w) (hb : Below w.heap.size w w') : Lib.BuilderAt T e B b p bs w' := by
  obtain ⟨h1, v, h2, h3, h4⟩ := h
  refine ⟨h1, v, ?_, ?_, h4⟩
  · rw [hb.block _ (Array.getElem?_eq_some_iff.1 h2).1]; exact h2
  · exact h3.kept (row := none) ⟨hb.os, hb.tape, hb.output, hb.size, fun k hk _ => hb.block k hk⟩ (by cases v.ownBlock <;> simp)
theorem isBuilder_stays {T e : TypeId} {B b : Nat} {bs : List Value} {w w' : World} (h : Lib.IsBuilder T e B b bs w) (hb : Below w.heap.size w w') : Lib.IsBuilder T e B b bs w' := by
  rcases h with h | h
  · exact .inl (builderAt_stays h hb)
  · exact .inr (builderAt_stays h hb)

set_option maxHeartbeats 4000000 in
theorem t37 (w : World) (htab : Tab w) (a : Option Addr) (len cap bk o : Nat) (ps : List (Int × Int)) (hl : ps.length = len) (ha : 0 < len → a = some ⟨bk, o, none⟩) (hcap : len ≤ cap)
   (hcells : ∀ j p, ps[j]? = some p → w.cell? ⟨bk, o + j * 2, none⟩ = some (.int .i64 p.1) ∧ w.cell? ⟨bk, o + j * 2 + 1, none⟩ = some (.int .i64 p.2)) (hbk : 0 < len → bk < w.heap.size)
   (hin : ∀ p ∈ ps, in64 p.1 ∧ in64 p.2) (hlen : len ≤ 140737488355328) (hsz : (pairsL ps).length ≤ 140737488355328) :
   Calls Tryz.prog 37 #[.slice a len cap] w fun e w' => e = .returned (.string (bs (pairsL ps))) ∧ Below w.heap.size w w' := by
  have mixed := Tryz.laysJoin.mixed
  have HC := hidS hcells
  have HT := hidS htab
  have HI := hidS hin
  clear hcells htab hin
  have e40 : ∀ args w, (callFunc 40 args).run Tryz.prog w = .ok (.enter 40 args) w := enters Tryz.func40 rfl (by decide)
  have e41 : ∀ args w, (callFunc 41 args).run Tryz.prog w = .ok (.enter 41 args) w := enters Tryz.func41 rfl (by decide)
  go_enter Tryz.func37, Tryz.ntmps37
  go_wp2
  go_loopw [8] (fun i wr => ∃ k : Nat, k ≤ len ∧ i = .int .i64 k ∧ Hid (Lib.IsBuilder 83 5 w.heap.size w.heap.size (Lib.byteCells (pairsL (ps.take k))) wr) ∧ Hid (Below w.heap.size w wr)) (fun i _ => len - (intOf i).toNat)
  case atStart => exact ⟨0, Nat.zero_le _, rfl, Lib.fresh_isBuilder 83 5 w, (Below.refl w.heap.size w).alloc (Nat.le_refl _) _⟩
  case round =>
    obtain ⟨k, hk, rfl, HB, HW⟩ := hrel
    have hBw : w.heap.size ≤ wr.heap.size := HW.out.size
    by_cases hkl : k < len
    · obtain ⟨p, hp⟩ : ∃ p, ps[k]? = some p := ⟨ps[k]'(by omega), List.getElem?_eq_getElem (by omega)⟩
      obtain ⟨c1, c2⟩ := HC.out k p hp
      obtain ⟨i1, i2⟩ := HI.out p (List.mem_of_getElem? hp)
      have hbk' := hbk (by omega)
      have d1 : wr.cell? ⟨bk, o + k * 2, none⟩ = some (.int .i64 p.1) := by rw [HW.out.cell (p := ⟨bk, o + k * 2, none⟩) hbk']; exact c1
      have d2 : wr.cell? ⟨bk, o + k * 2 + 1, none⟩ = some (.int .i64 p.2) := by rw [HW.out.cell (p := ⟨bk, o + k * 2 + 1, none⟩) hbk']; exact c2
      have ha' := ha (by omega)
      subst ha'
      have hpl := pairL_len i1 i2
      have hsz1 := pairsL_le ps (k + 1)
      rw [pairsL_take hp] at hsz1
      have Hn := hidS (pairsL_take hp)
      clear c1 c2
      go_wp2_with fail
      have hba : Below wr.heap.size wr (wr.alloc (Obj.cells #[Value.int IntKind.i64 p.fst, Value.int IntKind.i64 p.snd] 61)) := (Below.refl _ _).alloc (Nat.le_refl _) _
      refine (t36 _ (HT.out.stays (HW.out.trans (hba.mono hBw))) p.1 p.2 i1 i2).mono ?_
      rintro e w2 ⟨rfl, hb2⟩
      have hb2' : Below wr.heap.size wr w2 := hba.trans (hb2.mono hba.size)
      have HB2 := hidS (isBuilder_stays HB.out hb2')
      have HW2 := hidS (HW.out.trans (hb2'.mono hBw))
      clear hb2 hba hb2'
      have hcat : (⟨#[32]⟩ : ByteArray) ++ bs (pairL p.1 p.2) = bs (32 :: pairL p.1 p.2) := bs_append [32] _
      have Hcat := hidS hcat
      clear hcat
      have hsize : ¬ 9223372036854775807 < 1 + (bs (pairL p.1 p.2)).size := by rw [bs_size]; omega
      go_wp2_with fail
      have hlenb : (Lib.byteCells (pairsL (List.take k ps))).length + (({ data := #[32] } : ByteArray) ++ bs (pairL p.1 p.2)).size ≤ 140737488355328 := by
        rw [Hcat.out, bs_size, Lib.byteCells_length]
        rw [List.length_append] at hsz1
        omega
      refine (Any.Builder_WriteString { Tryz.laysJoin with } extra w.heap.size w.heap.size _ _ w2 HB2.out hlenb HW2.out.size).mono ?_
      rintro e w3 ⟨rfl, hb3, hw3⟩
      have hb4 : Lib.IsBuilder 83 5 w.heap.size w.heap.size (Lib.byteCells (pairsL (ps.take (k + 1)))) w3 := by
        rw [Hn.out, Lib.byteCells_append]
        rw [Hcat.out, Lib.strCells_eq] at hb3
        exact .inr hb3
      have HB4 := hidS hb4
      have HW4 := hidS (HW2.out.trans hw3)
      clear hb3 hb4 hw3 hlenb
      go_wp2
      exact ⟨⟨k + 1, by omega, by go_num, HB4, HW4⟩, by simp [intOf]; omega⟩
    · have hke : k = len := by omega
      have hfull : ps.take k = ps := List.take_of_length_le (by omega)
      have hB' := HB.out
      rw [hfull] at hB'
      have HB' := hidS hB'
      clear hB' hfull
      go_wp2_with fail
      refine (Any.Builder_String_any Tryz.laysString { extra with } w.heap.size w.heap.size _ wr HB'.out hBw).mono ?_
      rintro e w5 ⟨rfl, hb5⟩
      have Hb5 := hidS (HW.out.trans hb5)
      clear hb5
      go_wp2
      go_ret
      exact ⟨rfl, Hb5.out⟩

/-! as a function known by a contract -/
def pairsOf : List Value → Option (List (Int × Int))
  | [] => some []
  | .int .i64 k :: .int .i64 v :: r => (pairsOf r).bind fun l => some ((k, v) :: l)
  | _ => none
def pairsOk (ps : List (Int × Int)) : Bool := (ps.all fun p => inI64 p.1 && inI64 p.2) && decide (ps.length ≤ 140737488355328) && decide ((pairsL ps).length ≤ 140737488355328)
def xPairs : AFn := fun args h => match args with
  | [.slice a l g] => obind (sliceRow h 2 l (.slice a l g)) fun c => obind (pairsOf c) fun ps => bcond (decide (ps.length = l) && pairsOk ps) (some (.string (bs (pairsL ps)), h)) none
  | _ => none
theorem pairsOf_at : ∀ (ps : List (Int × Int)) (c : List Value), pairsOf c = some ps → ∀ j p, ps[j]? = some p → c[j * 2]? = some (.int .i64 p.1) ∧ c[j * 2 + 1]? = some (.int .i64 p.2) := by
  intro ps
  induction ps with
  | nil => intro c _ j p h; simp at h
  | cons q ps ih =>
    intro c h j p hj
    unfold pairsOf at h
    split at h
    · simp at h
    · obtain ⟨l, hl, h⟩ := Option.bind_eq_some_iff.1 h
      simp only [Option.some.injEq, List.cons.injEq] at h
      obtain ⟨rfl, rfl⟩ := h
      cases j with
      | zero => simp at hj; subst hj; simp
      | succ j =>
        have := ih _ hl j p (by simpa using hj)
        rw [show (j + 1) * 2 = j * 2 + 1 + 1 by omega]
        simpa using this
    · simp at h

theorem xPairs_sound {W0 : World} (htab : Tab W0) : ExtS W0 Tryz.prog 37 xPairs := by
  intro args h v h' e
  unfold xPairs at e
  split at e
  · rename_i a l g
    obtain ⟨c, hc, e⟩ := Option.bind_eq_some_iff.1 e
    obtain ⟨ps, hps, e⟩ := Option.bind_eq_some_iff.1 e
    rw [bcond_eq] at e
    split at e
    · rename_i hok
      simp only [Option.some.injEq, Prod.mk.injEq] at e
      obtain ⟨rfl, rfl⟩ := e
      simp only [pairsOk, Bool.and_eq_true, decide_eq_true_eq, List.all_eq_true] at hok
      obtain ⟨o1, ⟨o2, o3⟩, o4⟩ := hok
      refine ⟨Nat.le_refl _, fun α m B U M w cargs C hN ha => ?_⟩
      obtain ⟨cc, rfl, hr⟩ := ha.one_inv
      have hin : ∀ p ∈ ps, in64 p.1 ∧ in64 p.2 := fun p hp => by
        have := o2 p hp
        simp only [inI64, Bool.and_eq_true, decide_eq_true_eq] at this
        exact this
      have htab' : Tab w := htab.stays (C.old.below.mono C.old.size)
      refine CallOut.of_calls (enters Tryz.func37 rfl (by decide) _ _) C (.string _) ?_
      rcases Nat.eq_zero_or_pos l with hl0 | hl0
      · subst hl0
        have hnil : ps = [] := List.eq_nil_of_length_eq_zero o1
        subst hnil
        have : ∃ ca cap, cc = .slice ca 0 cap := by cases hr <;> exact ⟨_, _, rfl⟩
        obtain ⟨ca, cap, rfl⟩ := this
        exact t37 w htab' ca 0 cap 0 0 [] rfl (by simp) (Nat.zero_le _) (by simp) (by simp) (by simp) (by simp) (by simp [pairsL])
      · cases a with
        | none => simp [sliceRow] at hc; omega
        | some ad =>
          simp only [sliceRow, Nat.le_refl, if_true] at hc
          rw [if_neg (by omega)] at hc
          split at hc
          · rename_i ro e' g' c' hg
            split at hc
            · rename_i hcc
              obtain ⟨rfl, rfl, h3, h4⟩ := hcc
              simp only [Option.some.injEq] at hc
              obtain ⟨blk, off, spot⟩ := ad
              simp only at h4 h3 hg hc hr
              subst h4
              have hm := C.sub _ _ hg
              obtain ⟨cap, rfl, hcap, _, hlt, hcell⟩ := C.heap.row hm hr hl0
              refine t37 w htab' _ l cap (α.blk blk) (α.off blk + off) ps o1 (fun _ => rfl) hcap (fun j p hj => ?_) (fun _ => hlt) hin (by omega) o4
              have hjl : j < l := by rw [← o1]; exact (List.getElem?_eq_some_iff.1 hj).1
              obtain ⟨q1, q2⟩ := pairsOf_at _ _ hps j p hj
              rw [← hc, List.getElem?_take, if_pos (by omega), List.getElem?_drop] at q1 q2
              obtain ⟨cw1, hcw1, hR1⟩ := hcell (j * 2) _ (by omega) q1
              obtain ⟨cw2, hcw2, hR2⟩ := hcell (j * 2 + 1) _ (by omega) q2
              have e1 : cw1 = .int .i64 p.1 := hR1.int_inv
              have e2 : cw2 = .int .i64 p.2 := hR2.int_inv
              subst e1 e2
              exact ⟨hcw1, by rw [← hcw2]; rfl⟩
            · simp at hc
          · simp at hc
    · simp at e
  · simp at e
end Go.Am.Sh
