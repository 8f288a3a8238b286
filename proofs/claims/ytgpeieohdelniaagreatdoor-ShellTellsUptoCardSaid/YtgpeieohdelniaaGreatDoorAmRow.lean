/- Rows whose calls can start goroutines, where the call at hand starts none: alone at the return is more than leaving. -/
import Derived.JoinedCond
import Derived.SevenTiedAt
namespace Go.Am
open Go

theorem leaving_of_alone {P : Program} {m : Machine} {w : World} {t : Trace} (h : aloneAtReturn P m w t) : leavingAtReturn P m w t := by
  obtain ⟨⟨h1, h2⟩, h3, h4⟩ := h
  refine ⟨h3, ⟨fun g hg => ⟨0, ?_⟩, h2⟩, h4⟩
  have := List.all_eq_true.1 h1 g hg
  simpa [Goroutine.LeavesIn] using this
theorem returns_leaving {a : Assume} {C : Checked} {os : Os} {f : FuncId} {r : Reach} {ok : Program → World → Reach → Nat → FuncId → Input → Prop} {Pre : World → Array Value → Prop} {Post : World → Array Value → Value → World → Prop} {al : Machine → Prop}
    (h : ReturnsInOpen a none C os f r ok Pre Post (aloneAtReturn C.prog) al) : ReturnsInOpen a none C os f r ok Pre Post (leavingAtReturn C.prog) al := by
  obtain ⟨h1, h2, h3, h4, h5⟩ := h
  refine ⟨h1, h2, h3, h4, fun w tape i hf => ?_⟩
  obtain ⟨n, v, w', k1, k2, k3, k4, ⟨j, last, k5, k6, k7⟩, k8⟩ := h5 w tape i hf
  exact ⟨n, v, w', k1, k2, k3, k4, ⟨j, last, k5, k6, leaving_of_alone k7⟩, k8⟩

/-- The row that says 'alone', as one that says 'leaving'. -/
theorem holds_leaving {p : Pinned} {s : OpenSpec} {c : OpenClaim} (hs : c.start = .entering) (hst : c.stops = []) (hl : c.leaving = true) (hw : c.wf s = true) (h : ({ c with leaving := false } : OpenClaim).holds p s) : c.holds p s := by
  obtain ⟨_, k2, k3, k4, k5, k6, k7, k8, f, fn, k9, k10, k11, k12, k13, k14, k15, k16, k17, k18, k19, k20, k21, k22, k23, k24, k25, k26, k27, kx, ky, L, k28, all⟩ := h
  refine ⟨hw, k2, k3, k4, k5, k6, k7, k8, f, fn, k9, k10, k11, k12, k13, k14, k15, k16, k17, k18, k19, k20, k21, k22, k23, k24, k25, k26, k27, kx, ky, L, k28, fun os h1 h2 H enc inj => ?_⟩
  have := all os h1 h2 H enc inj
  unfold OpenClaim.form at this ⊢
  simp only [hs, hst] at this ⊢
  intro F
  have h3 := this F
  have e : c.atReturn p.checked.prog = leavingAtReturn p.checked.prog := by unfold OpenClaim.atReturn; rw [hl]
  rw [e]
  exact returns_leaving h3

/-- A tied card whose call can start goroutines. -/
theorem holds_tied_goes (Lk : Looks) {p : Pinned} {s : OpenSpec} {c : OpenClaim} (kinds : List LaidKind) (tests : Bool) (har : Bool × String) (lk g : Bool)
    (hc : c.holds p s) (hw : c.wfByText s = true) (htie : c.laidByTextAt Lk p kinds tests)
    (hst : c.start = .entering) (hnb : c.noBlocks = false ∧ c.again = false) (hm : p.checked.prog.mainIs = some (har.1, har.2.toList)) (hn : (!har.1 && har.2.isEmpty && !lk) = false)
    (hl : ∀ f fn, p.checked.prog.funcNamed c.func = some f → p.checked.prog.funcs[f]? = some fn → lk = p.checked.prog.looks [] ∧ ∀ (j : Nat) t, fn.params[j]? = some t → p.checked.prog.wantsStandIn t = false)
    (hg : g = c.goesBy p.checked.prog) :
    Claim7.holds p (.plain s) { stood := { row := c, standIns := [], harness := har, looks := lk }, kinds := [], alts := [], goes := g, laidByText := true, laidKinds := kinds, laidTests := tests, laidLooks := Lk } := by
  have h6 : Claim7.isSixth { stood := { row := c, standIns := [], harness := har, looks := lk }, kinds := [] } = false := by simpa [Claim7.isSixth] using hn
  have h1 := Claim7.tied_new_at Lk kinds tests (Claim7.new_of_sixth hc har lk hst hnb hm h6 hl) hw
  exact ⟨h1, (fun D hD => by cases hD), htie, (fun h => by cases h), hg⟩
end Go.Am
