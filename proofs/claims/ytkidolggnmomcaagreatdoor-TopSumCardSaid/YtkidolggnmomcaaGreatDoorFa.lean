/- Closed facts of the seat, by the kernel: what the row and the card ask of the program. -/
import Derived.Test.YtkidolggnmomcaaGreatDoorRows
import Derived.ProofKit
import Derived.Carry
import Derived.Lay
import Derived.SevenTiedAt
import Derived.Test.YtkidolggnmomcaaGreatDoorCards
set_option linter.unusedVariables false
set_option linter.unusedSimpArgs false
namespace Go.Proofs.YtkidolggnmomcaaGreatDoor
open Go Go.ChangeShapes Go.WideShapes Go.ChangeAt Go.RowKit
set_option maxRecDepth 100000
theorem k1 : (Rows.topSumRow.wf (OpenSpec.ofChange Rows.topSumSpec)) = true := by kernel_rfl
theorem k2 : (laidOutB Tryz.pinned.checked.prog) = true := by kernel_rfl
theorem k3 : (mapsRowed Tryz.pinned.checked.prog) = true := by kernel_rfl
theorem k4 : (Tryz.f3.params.all (Tryz.pinned.checked.prog.readableRec ·)) = true := by kernel_rfl
theorem k5 : (namedTie Tryz.pinned.checked.prog Rows.topSumRow.named Rows.topSumSpec.vars) = true := by kernel_rfl
theorem k6 : ((Rows.topSumRow.stops == [])) = true := by kernel_rfl
theorem k7 : ((Tryz.pinned.checked.prog.stops == [])) = true := by kernel_rfl
theorem k8 : ((Rows.topSumRow.knobs == [])) = true := by kernel_rfl
theorem k9 : ((Tryz.pinned.checked.prog.stopKnobs == [])) = true := by kernel_rfl
theorem k10 : ((Rows.topSumRow.inPlace == Tryz.pinned.checked.prog.inPlace 3)) = true := by kernel_rfl
theorem k11 : ((Rows.topSumRow.unfollowed == Tryz.pinned.checked.prog.unfollowed 3)) = true := by kernel_rfl
theorem k12 : ((Rows.topSumRow.recurses == Tryz.pinned.checked.prog.recurses 3)) = true := by kernel_rfl
theorem k13 : ((Rows.topSumRow.named == Tryz.pinned.checked.prog.varsNamed 3)) = true := by kernel_rfl
theorem k14 : ((Rows.topSumRow.maps == (Tryz.f3.params.toList ++ Rows.topSumSpec.plain.varTypes Tryz.pinned.checked.prog).any (Tryz.pinned.checked.prog.mapsRec ·))) = true := by kernel_rfl
theorem k15 : ((Rows.topSumRow.ifaces == (Tryz.f3.params.toList ++ Rows.topSumSpec.plain.varTypes Tryz.pinned.checked.prog).any (Tryz.pinned.checked.prog.ifacesRec ·))) = true := by kernel_rfl
theorem k16 : ((Rows.topSumRow.mapsOut == Tryz.pinned.checked.prog.mapsAmong Tryz.f3.resultTypes.toList)) = true := by kernel_rfl
theorem k17 : ((Rows.topSumRow.loops == (Tryz.f3.params.toList ++ Rows.topSumSpec.plain.varTypes Tryz.pinned.checked.prog).any (Tryz.pinned.checked.prog.loopsFrom ·))) = true := by kernel_rfl
theorem k18 : ((Rows.topSumRow.wideKeys == (Tryz.f3.params.toList ++ Rows.topSumSpec.plain.varTypes Tryz.pinned.checked.prog ++ Tryz.f3.resultTypes.toList).any (Tryz.pinned.checked.prog.wideKeysFrom ·))) = true := by kernel_rfl
theorem k19 : (Rows.topSumSpec.vars.all (Tryz.pinned.checked.prog.varReadable ·)) = true := by kernel_rfl
theorem k20 : (Tryz.f3.resultTypes.all (fun t => Tryz.pinned.checked.prog.readableRec t && decide (t < Tryz.pinned.checked.prog.types.size))) = true := by kernel_rfl
theorem k21 : ((Rows.topSumRow.ifacesOut == Tryz.f3.resultTypes.toList.any (Tryz.pinned.checked.prog.ifacesRec ·))) = true := by kernel_rfl
theorem k22 : ((Rows.topSumRow.loopsOut == Tryz.f3.resultTypes.toList.any (Tryz.pinned.checked.prog.loopsFrom ·))) = true := by kernel_rfl
theorem k23 : ((Rows.topSumRow.plainKeys == Tryz.pinned.checked.prog.plainKeys)) = true := by kernel_rfl
theorem k24 : (Rows.topSumRow.shortTexts.isNone) = true := by kernel_rfl
theorem k25 : (Tryz.pinned.checked.prog.stopsHeard) = true := by kernel_rfl
theorem k26 : (Tryz.pinned.checked.prog.mayEnter) = true := by kernel_rfl
theorem k27 : ((Rows.topSumRow.lifted == Tryz.pinned.checked.prog.liftsFinal)) = true := by kernel_rfl
theorem k28 : ((Tryz.pinned.checked.prog.make == some Rows.topSumRow.make)) = true := by kernel_rfl
theorem k29 : ((Rows.topSumRow.kinds == (if Rows.topSumRow.domain.isEmpty then [] else Tryz.f3.params.toList.map fun t => match Tryz.pinned.checked.prog.underlying t with | some (.int k) => some k | _ => none))) = true := by kernel_rfl
theorem k30 : ((Rows.topSumRow.pinned == Rows.topSumRow.pinnedBy)) = true := by kernel_rfl
theorem k31 : ((Rows.topSumRow.veiled == (Tryz.f3.params.toList ++ Rows.topSumSpec.plain.varTypes Tryz.pinned.checked.prog ++ Tryz.f3.resultTypes.toList).any (Tryz.pinned.checked.prog.veiledRec ·))) = true := by kernel_rfl
theorem k32 : (Rows.topSumRow.veiledFits Tryz.pinned.checked.prog Tryz.f3.params.toList (Tryz.f3.params.toList ++ Rows.topSumSpec.plain.varTypes Tryz.pinned.checked.prog ++ Tryz.f3.resultTypes.toList)) = true := by kernel_rfl
theorem facts : joinedFacts Tryz.pinned.checked.prog 3 Tryz.f3 Rows.topSumSpec Rows.topSumRow = true := by
  delta joinedFacts
  exact (Bool.and_eq_true_iff.2 ⟨(Bool.and_eq_true_iff.2 ⟨(Bool.and_eq_true_iff.2 ⟨(Bool.and_eq_true_iff.2 ⟨(Bool.and_eq_true_iff.2 ⟨(Bool.and_eq_true_iff.2 ⟨(Bool.and_eq_true_iff.2 ⟨(Bool.and_eq_true_iff.2 ⟨(Bool.and_eq_true_iff.2 ⟨(Bool.and_eq_true_iff.2 ⟨(Bool.and_eq_true_iff.2 ⟨(Bool.and_eq_true_iff.2 ⟨(Bool.and_eq_true_iff.2 ⟨(Bool.and_eq_true_iff.2 ⟨(Bool.and_eq_true_iff.2 ⟨(Bool.and_eq_true_iff.2 ⟨(Bool.and_eq_true_iff.2 ⟨(Bool.and_eq_true_iff.2 ⟨(Bool.and_eq_true_iff.2 ⟨(Bool.and_eq_true_iff.2 ⟨(Bool.and_eq_true_iff.2 ⟨(Bool.and_eq_true_iff.2 ⟨(Bool.and_eq_true_iff.2 ⟨(Bool.and_eq_true_iff.2 ⟨(Bool.and_eq_true_iff.2 ⟨(Bool.and_eq_true_iff.2 ⟨(Bool.and_eq_true_iff.2 ⟨(Bool.and_eq_true_iff.2 ⟨(Bool.and_eq_true_iff.2 ⟨(Bool.and_eq_true_iff.2 ⟨(Bool.and_eq_true_iff.2 ⟨k1, k2⟩), k3⟩), k4⟩), k5⟩), k6⟩), k7⟩), k8⟩), k9⟩), k10⟩), k11⟩), k12⟩), k13⟩), k14⟩), k15⟩), k16⟩), k17⟩), k18⟩), k19⟩), k20⟩), k21⟩), k22⟩), k23⟩), k24⟩), k25⟩), k26⟩), k27⟩), k28⟩), k29⟩), k30⟩), k31⟩), k32⟩)
theorem named3 : Tryz.pinned.checked.prog.funcNamed Rows.topSumRow.func = some 3 := by kernel_rfl
theorem inst3 : Func.isInstance Tryz.pinned.checked.prog Tryz.f3 Rows.topSumRow.origin Rows.topSumRow.targs := of_decide_eq_true (by kernel_rfl)
theorem wrap3 : Func.isWrapper Tryz.pinned.checked.prog Tryz.f3 Rows.topSumRow.wrapper Rows.topSumRow.mainSum := by unfold Func.isWrapper; first | (rw [if_pos (by decide +kernel)]; kernel_rfl) | (rw [if_neg (by decide +kernel)]; exact ⟨rfl, rfl⟩)
theorem goes_none {P : Program} (h : P.funcs.any Func.goes = false) (f : FuncId) : P.goes f = false := by
  unfold Program.goes
  rw [h, Bool.and_false, Bool.or_false, List.any_eq_false]
  intro g _ hg
  cases h1 : P.funcs[g]? with
  | none => rw [h1] at hg; cases hg
  | some fn =>
    rw [h1] at hg
    obtain ⟨hlt, he⟩ := Array.getElem?_eq_some_iff.1 h1
    have := Array.any_eq_false.1 h g hlt
    rw [he] at this
    exact this hg
theorem goesBy_none {P : Program} {c : OpenClaim} (hs : c.start = .entering) (h : P.funcs.any Func.goes = false) : false = c.goesBy P := by
  unfold OpenClaim.goesBy Program.goesAt Program.goesFrom
  rw [hs, Bool.or_false]
  cases P.funcNamed c.func with
  | none => rfl
  | some f => exact (goes_none h f).symm
theorem goesAny : Tryz.pinned.checked.prog.funcs.any Func.goes = false := by kernel_rfl
theorem goes3 : false = Rows.topSumRow.goesBy Tryz.pinned.checked.prog := goesBy_none rfl goesAny
theorem wf3 : OpenClaim.wfByText (OpenSpec.ofChange Rows.topSumSpec) Rows.topSumRow = true := by kernel_rfl
theorem main3 : Tryz.pinned.checked.prog.mainIs = some (true, "ecf8ad2401da30f229d4439ab8c977b2cc4cb6c9f0828ac4f8dc383d44d03143".toList) := by kernel_rfl
theorem looks3 : true = Tryz.pinned.checked.prog.looks [] := by kernel_rfl
theorem standIn3 : ∀ t ∈ [3, 22, 23], Tryz.prog.wantsStandIn t = false := by
  have hall : ([3, 22, 23].all fun u => !Tryz.prog.wantsStandIn u) = true := by kernel_rfl
  exact fun t hm => by simpa using List.all_eq_true.1 hall t hm
theorem own : ownKnob Tryz.prog.godebug = none := by kernel_rfl
theorem laidOut : laidOutB Tryz.prog = true := by kernel_rfl
end Go.Proofs.YtkidolggnmomcaaGreatDoor
