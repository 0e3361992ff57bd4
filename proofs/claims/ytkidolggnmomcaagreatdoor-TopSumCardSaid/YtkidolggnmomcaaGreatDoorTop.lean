/- TopSum: whatever is handed in, the law answers true and leaves its arguments as they were; no condition. -/
import Derived.Test.YtkidolggnmomcaaGreatDoorCi
import Derived.Test.YtkidolggnmomcaaGreatDoorFa
import Derived.ProofKit
import Derived.Carry
import Derived.Lay
import Derived.SevenTiedAt
import Derived.Test.YtkidolggnmomcaaGreatDoorTie
import Derived.Test.YtkidolggnmomcaaGreatDoorCards
set_option linter.unusedVariables false
set_option linter.unusedSimpArgs false
/- The statement holds. -/
namespace Go.Proofs.YtkidolggnmomcaaGreatDoor
open Go Go.ChangeShapes Go.WideShapes Go.ChangeAt Go.RowKit

/-- what the row lists -/
noncomputable abbrev laid7 : List (String × DataW Unit) := Rows.topSumRow.laid

set_option maxRecDepth 100000 in
theorem lifted (os : Os) (started : os.Started) (H : Type) (enc : TypeId × Value → H) :
    ReturnsInHanded {} Tryz.checked os 3 .any (fun w args => (Rows.topSumSpec.pre enc Tryz.prog Tryz.f3 [] false w args ∧ laidMetH Tryz.prog laid7 w) ∧ sizedMet enc Tryz.prog Tryz.f3 (OpenSpec.ofChange Rows.topSumSpec) false w args)
      (Rows.topSumSpec.post enc Tryz.prog Tryz.f3 false true false false) := by
  refine returnsInHanded_of_change_and (C := Tryz.checked) (X := fun w _ => laidMetH Tryz.prog laid7 w) (fun _ _ _ hh h => h.of_heap hh) own started (by kernel_rfl) Tryz.func3
    (ChangeSpec.witness_shaped (enc := enc) (C := Tryz.checked) (os := os) (X := fun w _ => laidMetH Tryz.prog laid7 w) false (World.laidAll Tryz.prog os laid7) #[.int .i64 0, .slice none 0 0, .slice none 0 0] 8 (World.laidAll_os _ _ _)
      (World.shaped_of_ZipB (by kernel_rfl) (by kernel_rfl)) (by kernel_rfl) (by kernel_rfl) (by kernel_rfl)
      (by rw [MakeChecks.laidMetH_plain _ _ _ (by kernel_rfl)]; exact laidMet_laidAll _ (by kernel_rfl) (by kernel_rfl))) ?_
  intro W base args ds gs before hval0 hW _ _ hL _
  have hval : ∀ (j : Nat) t v, Tryz.f3.params[j]? = some t → args[j]? = some v → Value.okWide Tryz.prog W .any base t v := hval0
  have hW' := hW
  obtain ⟨p, q, hA0, hV, rfl, _, _⟩ := hW
  have hA : DataW.TrodAll enc Tryz.prog W 0 (fun _ => true) true Tryz.f3.params.toList args.toList ds p := hA0
  rw [Tryz.params3] at hA hval
  obtain ⟨v0, v1, v2, d0, d1, d2, p0, p1, p2, rfl, rfl, rfl, h0, h1, h2⟩ := trodAll_three hA
  obtain ⟨rfl, rfl⟩ := trodVars_none hV
  obtain ⟨n, rfl, rfl, rfl, wn⟩ := open_int Tryz.underlying3 (hval 0 3 v0 rfl rfl) h0
  obtain ⟨a1, l1, c1, rfl⟩ := okWide_slice Tryz.underlying22 (hval 1 22 v1 rfl rfl)
  obtain ⟨a2, l2, c2, rfl⟩ := okWide_slice Tryz.underlying23 (hval 2 23 v2 rfl rfl)
  have h1k := h1
  have h2k := h2
  obtain ⟨fu1, hf1⟩ := h1
  obtain ⟨fu2, hf2⟩ := h2
  clear hA0 hval0
  simp only [List.append_nil] at hW'
  have hlt1 : ∀ x ∈ p1, x.block < W.heap.size := fun x hx => by simpa using hW'.lt x (by simp [hx])
  have hlt2 : ∀ x ∈ p2, x.block < W.heap.size := fun x hx => by simpa using hW'.lt x (by simp [hx])
  obtain ⟨pe, zs, re, he⟩ := Go.Ab.T.read_edits hf1
  obtain ⟨pv, rs, rv, hv, hr⟩ := Go.Ab.T.read_vals hf2
  refine (Go.Ab.T.top_call (n := n) he hv hr (c := Go.Ab.T.cx0 W) rfl (Go.Ab.T.mem0 W) (.cons _ _ _ _ (.int .i64 n) (.cons _ _ _ _ re (.cons _ _ _ _ rv .nil)))).mono fun e W' ⟨he', c', m', hX⟩ => ?_
  subst he'
  have hb : Below W.heap.size W W' := ⟨hX.os.1, hX.os.2.2, hX.os.2.1, hX.size, fun k hk => hX.old k hk fun b hb => hb.elim⟩
  exact ⟨_, rfl, _, _, _, [], [] ++ (p1 ++ p2), [], hW', trodAll_mk1 (shut_bool Tryz.underlying4 _),
    trodAll_mk3 (shut_int Tryz.underlying3 wn) (Below.trod laidOut (by kernel_rfl) (of_decide_eq_true (by kernel_rfl)) h1k hb hlt1) (Below.trod laidOut (by kernel_rfl) (of_decide_eq_true (by kernel_rfl)) h2k hb hlt2), rfl, hb.frame _, fun h => by cases h⟩

theorem topSum_row_holds : Rows.TopSumSaid :=
  OpenClaim.holds_of_wide 3 Tryz.f3 rfl rfl rfl rfl rfl rfl rfl ⟨rfl, rfl, rfl, rfl, rfl⟩ rfl rfl rfl rfl rfl named3 Tryz.func3 facts inst3 wrap3
    (fun os started H enc _ => lifted os started H enc)
theorem topSum_holds : Rows.TopSumCardSaid :=
  Claim7.holds_tied_plain_at .later [] [.data, .data, .data, .data, .sentinel, .sentinel, .pinned] true (true, "ecf8ad2401da30f229d4439ab8c977b2cc4cb6c9f0828ac4f8dc383d44d03143") true
    topSum_row_holds (fun _ h => by cases h) wf3 (fun _ h => by cases h) topSum_row_tie rfl ⟨rfl, rfl⟩ main3 rfl
    (fun f fn hf hfn => by
      obtain rfl : f = 3 := Option.some.inj (named3.symm.trans hf) |>.symm
      obtain rfl : fn = Tryz.f3 := (Option.some.inj (Tryz.func3.symm.trans hfn)).symm
      exact ⟨looks3, fun j t ht => by
        rw [Tryz.params3] at ht
        exact standIn3 t (by simpa using Array.mem_of_getElem? ht)⟩)
    goes3
#print axioms topSum_holds
