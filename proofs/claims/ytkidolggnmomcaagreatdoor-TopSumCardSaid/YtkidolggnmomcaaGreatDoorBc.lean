/- Rationals: Mul, Add, Div, Is answer right; Print answers some text. -/
import Derived.Test.YtkidolggnmomcaaGreatDoorBb
import Derived.KernelRfl
set_option linter.unusedVariables false
set_option linter.unusedSimpArgs false
/- rat.Mul. -/
open Go Go.Ab
namespace Go.Ab.T
set_option maxRecDepth 10000
set_option maxHeartbeats 2000000
set_option linter.unusedSimpArgs false
attribute [local irreducible] Tr.get Tr.set

theorem rq_mul {r s : Rat} : rq (!decide (decide (r.num < 0) = decide (s.num < 0))) (r.num.natAbs * s.num.natAbs) (r.den * s.den) = r * s := by
  rw [Rat.mul_def']
  unfold rq
  by_cases h1 : r.num < 0 <;> by_cases h2 : s.num < 0
  · rw [decide_eq_true h1, decide_eq_true h2, if_neg (by decide)]
    congr 1
    rw [Int.natCast_mul, show (r.num.natAbs : Int) = -r.num by omega, show (s.num.natAbs : Int) = -s.num by omega, Int.neg_mul_neg]
  · rw [decide_eq_true h1, decide_eq_false h2, if_pos (by decide), Rat.neg_mkRat]
    congr 1
    rw [Int.natCast_mul, show (r.num.natAbs : Int) = -r.num by omega, show (s.num.natAbs : Int) = s.num by omega, Int.neg_mul, Int.neg_neg]
  · rw [decide_eq_false h1, decide_eq_true h2, if_pos (by decide), Rat.neg_mkRat]
    congr 1
    rw [Int.natCast_mul, show (r.num.natAbs : Int) = r.num by omega, show (s.num.natAbs : Int) = -s.num by omega, Int.mul_neg, Int.neg_neg]
  · rw [decide_eq_false h1, decide_eq_false h2, if_neg (by decide)]
    congr 1
    rw [Int.natCast_mul, show (r.num.natAbs : Int) = r.num by omega, show (s.num.natAbs : Int) = s.num by omega]
theorem b_neqB {K : Option TI} {cst : Bool} (hk : K = some ⟨.bool, 1, some [.bool false]⟩) {a b : Bool} : bin2 K cst .neq (.bool a) (.bool b) = some (.bool (!decide (a = b))) := by
  subst hk; cases a <;> cases b <;> rfl
theorem b_eqlB {K : Option TI} {cst : Bool} (hk : K = some ⟨.bool, 1, some [.bool false]⟩) {a b : Bool} : bin2 K cst .eql (.bool a) (.bool b) = some (.bool (decide (a = b))) := by
  subst hk; cases a <;> cases b <;> rfl
theorem ty4 : E.ty 4 = some ⟨.bool, 1, some [.bool false]⟩ := rfl
theorem ty34' : E.ty 34 = some ⟨.slice 68 1 4 (some [.int .u32 0]), 1, some [.nils]⟩ := rfl
theorem lm_mul_len {x y L M : Nat} (h1 : (lm x).length ≤ L) (h2 : (lm y).length ≤ M) : (lm (x * y)).length ≤ L + M := by
  rw [lm_length] at *
  rw [Nat.pow_add]
  have hp : 0 < BB ^ M := Nat.pow_pos BB_pos
  calc x * y ≤ x * BB ^ M := Nat.mul_le_mul_left _ (Nat.le_of_lt h2)
    _ < BB ^ L * BB ^ M := (Nat.mul_lt_mul_right hp).2 h1

theorem rat_Mul {r t : Rat} {v w : PV} (h : RatW r v) (h' : RatW t w) (hb : Bd 100000 r) (hb' : Bd 100000 t) : ∃ q, RatP (r * t) q ∧ ∀ m, Ev E 292 [v, w] m q m := by
  obtain ⟨v1, hv, hv2⟩ := rat_Norm h
  obtain ⟨w1, hw, hw2⟩ := rat_Norm h'
  obtain ⟨s, pa, pb, a, b, rfl, a1, a2, a3, a4, a5, a6, a7⟩ := h
  obtain ⟨s', pa', pb', a', b', rfl, c1, c2, c3, c4, c5, c6, c7⟩ := h'
  obtain ⟨pn, pd, rfl, k1, k0, k2⟩ := hv
  obtain ⟨pn', pd', rfl, l1, l0, l2⟩ := hw
  have n1 := hb.1
  have n2 := hb.2
  have n3 := hb'.1
  have n4 := hb'.2
  obtain ⟨qn, e1, e2⟩ := nat_Mul k1 l1 (ok_lm _) (ok_lm _) (by omega) (by omega)
  obtain ⟨qd, e3, e4⟩ := nat_Mul k2 l2 (ok_lm _) (ok_lm _) (by omega) (by omega)
  rw [nv_lm, nv_lm] at e1 e3
  obtain ⟨q, e5, e6⟩ := rat_Of (s := !decide (decide (r.num < 0) = decide (t.num < 0))) e1 e3 (ok_lm _) (ok_lm _) (by have := lm_mul_len n1 n3; omega) (by have := lm_mul_len n2 n4; omega)
  rw [nv_lm, nv_lm, rq_mul] at e5
  have e5' := e5
  obtain ⟨qa, qb, rfl, f1, f0, f2⟩ := e5'
  refine Ev_isoR rfl rfl rfl (re_agg2 (flats3 rfl (Lim.flat a1) (Lim.flat a2)) (flats3 rfl (Lim.flat c1) (Lim.flat c2))) (fn := Go.Proofs.Tryz.f292) rfl rfl rfl ?_
  show WC E _ ⟨(Tr.leaf.set 0 _).set 1 _, 25, _, _⟩ _
  repeat first | refine WC_seq ?_ | refine WC_block ?_ | refine WC_region ?_
  apply WO_bx (hn := rfl)
  exact lk
  · exact bx3 rfl (Lim.cell a1) (Lim.cell a2)
  apply WO_bx (hn := rfl)
  exact lk
  · exact bx3 rfl (Lim.cell c1) (Lim.cell c2)
  apply WO_al (hn := rfl)
  · exact rfl
  rw [show PM.empty.next = 0 from rfl, show (PM.empty.new (.cells [.bool s, pa, pb] 0 false 36)).next = 1 from rfl, show ((PM.empty.new (.cells [.bool s, pa, pb] 0 false 36)).new (.cells [.bool s', pa', pb'] 0 false 36)).next = 2 from rfl]
  have b0 := three_get0 (x := .cells [.bool s, pa, pb] 0 false 36) (y := .cells [.bool s', pa', pb'] 0 false 36) (z := .cells [.bool false, .nils, .nils] 0 false 36)
  have b1 := three_get1 (x := .cells [.bool s, pa, pb] 0 false 36) (y := .cells [.bool s', pa', pb'] 0 false 36) (z := .cells [.bool false, .nils, .nils] 0 false 36)
  have b2 := three_get2 (x := .cells [.bool s, pa, pb] 0 false 36) (y := .cells [.bool s', pa', pb'] 0 false 36) (z := .cells [.bool false, .nils, .nils] 0 false 36)
  generalize ((PM.empty.new (.cells [.bool s, pa, pb] 0 false 36)).new (.cells [.bool s', pa', pb'] 0 false 36)).new (.cells [.bool false, .nils, .nils] 0 false 36) = me at *
  refine WO_nil ?_; show WC E _ _ _; repeat first | refine WC_seq ?_ | refine WC_block ?_ | refine WC_region ?_
  (apply WC_draw; (focus exact rfl))
  apply WD_ld (hn := rfl)
  exact lk
  · exact ty36
  · exact ld3 ty36.symm b0
  apply WD_ca (hn := rfl)
  · exact evs1 lk
  · exact hv2 me
  · exact rfl
  apply WD_ld (hn := rfl)
  exact lk
  · exact ty36
  · exact ld3 ty36.symm b1
  apply WD_ca (hn := rfl)
  · exact evs1 lk
  · exact hw2 me
  · exact rfl
  apply WD_st
  exact lk
  exact lk
  · exact st3 b0 rfl (Lim.cell k1) (Lim.cell k2)
  apply WD_st
  exact lk
  exact lk
  · exact st3 (x := .bool s') (y := pa') (z := pb') (et := 36) (by rw [PM.get_upd, if_neg (by decide)]; exact b1) rfl (Lim.cell l1) (Lim.cell l2)
  refine WD_nil ⟨?_, ?_⟩
  · have s1 := sameRead_me b1 c1 c2
    have s0 := sameRead_me b0 a1 a2
    simp only [trOk, okAll, okOne, okPair, s1, s0, Bool.or_true, Bool.true_and, Bool.and_true]
    rfl
  have b3 : ((me.upd 0 (.cells [.bool (decide (r.num < 0)), pn, pd] 0 false 36)).upd 1 (.cells [.bool (decide (t.num < 0)), pn', pd'] 0 false 36)).get 0 = some (.cells [.bool (decide (r.num < 0)), pn, pd] 0 false 36) := by rw [PM.get_upd, if_neg (by decide), PM.get_upd, if_pos rfl]
  have b4 : ((me.upd 0 (.cells [.bool (decide (r.num < 0)), pn, pd] 0 false 36)).upd 1 (.cells [.bool (decide (t.num < 0)), pn', pd'] 0 false 36)).get 1 = some (.cells [.bool (decide (t.num < 0)), pn', pd'] 0 false 36) := by rw [PM.get_upd, if_pos rfl]
  have b5 : ((me.upd 0 (.cells [.bool (decide (r.num < 0)), pn, pd] 0 false 36)).upd 1 (.cells [.bool (decide (t.num < 0)), pn', pd'] 0 false 36)).get 2 = some (.cells [.bool false, .nils, .nils] 0 false 36) := by rw [PM.get_upd, if_neg (by decide), PM.get_upd, if_neg (by decide)]; exact b2
  generalize (me.upd 0 (.cells [.bool (decide (r.num < 0)), pn, pd] 0 false 36)).upd 1 (.cells [.bool (decide (t.num < 0)), pn', pd'] 0 false 36) = me2 at *
  show WC E _ _ _; repeat first | refine WC_seq ?_ | refine WC_block ?_ | refine WC_region ?_
  (apply WC_draw; (focus exact rfl))
  apply WD_fa (hn := rfl)
  exact lk
  · exact rfl
  apply WD_ld (hn := rfl)
  exact lk
  · exact ty4
  · exact ld3_0 rfl rfl rfl b3
  apply WD_fa (hn := rfl)
  exact lk
  · exact rfl
  apply WD_ld (hn := rfl)
  exact lk
  · exact ty4
  · exact ld3_0 rfl rfl rfl b4
  apply WD_bin (hn := rfl)
  exact lk
  exact lk
  · exact b_neqB ty4
  apply WD_fa (hn := rfl)
  exact lk
  · exact rfl
  apply WD_ld (hn := rfl)
  exact lk
  · exact ty34'
  · exact ld3_1 rfl rfl rfl b3
  apply WD_fa (hn := rfl)
  exact lk
  · exact rfl
  apply WD_ld (hn := rfl)
  exact lk
  · exact ty34'
  · exact ld3_1 rfl rfl rfl b4
  apply WD_pu (hn := rfl)
  · apply evs2
    exact lk
    exact lk
  · exact e2 me2
  · exact pure_of rfl rfl (flats2 (Lim.flat k1) (Lim.flat l1))
  apply WD_fa (hn := rfl)
  exact lk
  · exact rfl
  apply WD_ld (hn := rfl)
  exact lk
  · exact ty34'
  · exact ld3_2 rfl rfl rfl b3
  apply WD_fa (hn := rfl)
  exact lk
  · exact rfl
  apply WD_ld (hn := rfl)
  exact lk
  · exact ty34'
  · exact ld3_2 rfl rfl rfl b4
  apply WD_pu (hn := rfl)
  · apply evs2
    exact lk
    exact lk
  · exact e4 me2
  · exact pure_of rfl rfl (flats2 (Lim.flat k2) (Lim.flat l2))
  apply WD_pu (hn := rfl)
  · apply evs3
    exact lk
    exact lk
    exact lk
  · exact e6 me2
  · exact pure_of rfl rfl (flats3 rfl (Lim.flat e1) (Lim.flat e3))
  apply WD_st
  exact lk
  exact lk
  · exact st3 b5 rfl (Lim.cell f1) (Lim.cell f2)
  refine WD_nil ⟨rfl, ?_⟩
  show WC E _ _ _
  refine WC_ret ?_
  show BodyQ _ _ _ _ _
  exact fin3c rfl ex_ret rfl gk (by rw [PM.get_upd, if_pos rfl]) ⟨_, _, reify_a3 rfl (Lim.flat f1) (Lim.flat f2), e5⟩
end Go.Ab.T
/- rat.Int, Div, Add. -/
open Go Go.Ab
namespace Go.Ab.T
set_option maxRecDepth 10000
set_option maxHeartbeats 2000000
set_option linter.unusedSimpArgs false
attribute [local irreducible] Tr.get Tr.set

/-- the end of a function that returns a number in a variable, and one temporary -/
theorem finct {b et : Nat} {frz : Bool} {x y z w : PV} {fn : Func} {t u : Nat} {R : PV → PM → Prop} (hr : fn.results.toList = [.cell t 36, .tmp u]) {xx : Ex} (hx : ∀ i, xx ≠ .exit i) {s : St} (hd : s.df = []) (h : s.tm.get t = some (.ptr b 0 0)) (hb : s.me.get b = some (.cells [x, y, z] 0 frz et))
    (hu : s.tm.get u = some w) (hR : R (.tup [.agg [x, y, z], w]) s.me) : BodyQ E fn R xx s := by
  refine ⟨hx, by rw [hd]; rfl, [.agg [x, y, z], w], ?_, hR⟩
  rw [hr]
  simp only [resultsOf, ty36, evo_t h, evo_t hu]
  have := ld3 (m := s.me) rfl hb
  rw [ty36] at this
  rw [this]
theorem reify_ta {m : PM} {x y z : PV} {c : Bool} (h1 : flat x = true) (h2 : flat y = true) (h3 : flat z = true) : reify 12 m (.tup [.agg [x, y, z], .bool c]) = some (.tup [.agg [x, y, z], .bool c], m) := by
  have e := reify_a3 (d := 10) (m := m) h1 h2 h3
  have e2 : flat (.agg [x, y, z]) = false := rfl
  have e3 : flat (.bool c) = true := rfl
  show (match reifysW (reify 11) m [.agg [x, y, z], .bool c] with
    | some (l, m') => some (PV.tup l, m')
    | none => none) = _
  simp only [reifysW, e2, cond_false, e, e3, cond_true]
theorem lm_one : lm 1 = [1] := by rw [lm_pos (by decide), show 1 % BB = 1 from rfl, show 1 / BB = 0 from rfl, lm_zero]
theorem lm_add_len {x y L : Nat} (h1 : (lm x).length ≤ L) (h2 : (lm y).length ≤ L) : (lm (x + y)).length ≤ L + 1 := by
  rw [lm_length] at *
  rw [Nat.pow_succ]
  have := Nat.mul_le_mul_left (BB ^ L) (show 2 ≤ BB by decide)
  omega
theorem rq_inv {t : Rat} (h : t ≠ 0) : rq (decide (t.num < 0)) t.den t.num.natAbs = t⁻¹ := by
  rw [Rat.inv_def]
  have hn : t.num ≠ 0 := fun e => h (Rat.num_eq_zero.1 e)
  unfold rq
  by_cases h1 : t.num < 0
  · rw [decide_eq_true h1, if_pos rfl, Rat.neg_mkRat, ← Rat.divInt_ofNat, show t.num = -(t.num.natAbs : Int) by omega, Rat.divInt_neg']
    congr 1
    omega
  · rw [decide_eq_false h1, if_neg (by decide), ← Rat.divInt_ofNat]
    congr 1
    omega
theorem rq_add {r t : Rat} : mkRat (r.num * t.den + t.num * r.den) (r.den * t.den) = r + t := (Rat.add_def' r t).symm
theorem rat_Add {r t : Rat} {v w : PV} (h : RatW r v) (h' : RatW t w) (hb : Bd 100000 r) (hb' : Bd 100000 t) : ∃ q, RatP (r + t) q ∧ ∀ m, Ev E 291 [v, w] m q m := by
  obtain ⟨v1, hv, hv2⟩ := rat_Norm h
  obtain ⟨w1, hw, hw2⟩ := rat_Norm h'
  obtain ⟨s, pa, pb, a, b, rfl, a1, a2, a3, a4, a5, a6, a7⟩ := h
  obtain ⟨s', pa', pb', a', b', rfl, c1, c2, c3, c4, c5, c6, c7⟩ := h'
  obtain ⟨pn, pd, rfl, k1, k0, k2⟩ := hv
  obtain ⟨pn', pd', rfl, l1, l0, l2⟩ := hw
  have n1 := hb.1
  have n2 := hb.2
  have n3 := hb'.1
  have n4 := hb'.2
  obtain ⟨qn, x1, x2⟩ := nat_Mul k1 l2 (ok_lm _) (ok_lm _) (by omega) (by omega)
  obtain ⟨qm, x3, x4⟩ := nat_Mul l1 k2 (ok_lm _) (ok_lm _) (by omega) (by omega)
  obtain ⟨qd, x5, x6⟩ := nat_Mul k2 l2 (ok_lm _) (ok_lm _) (by omega) (by omega)
  rw [nv_lm, nv_lm] at x1 x3 x5
  have m1 := lm_mul_len n1 n4
  have m2 := lm_mul_len n3 n2
  have m3 := lm_mul_len n2 n4
  have hd0 := r.den_nz
  have hd0' := t.den_nz
  -- the three ways
  obtain ⟨ss, y1, y2⟩ := nat_Add x1 x3 (ok_lm _) (ok_lm _) (by omega) (by omega)
  have sub1 := nat_Sub x1 x3 (ok_lm _) (ok_lm _) (by omega) (by omega)
  have sub2 := nat_Sub x3 x1 (ok_lm _) (ok_lm _) (by omega) (by omega)
  rw [nv_lm, nv_lm] at y1 sub1 sub2
  have hN : ((r.num.natAbs * t.den : Nat) : Int) = (r.num.natAbs : Int) * t.den := Int.natCast_mul _ _
  have hM : ((t.num.natAbs * r.den : Nat) : Int) = (t.num.natAbs : Int) * r.den := Int.natCast_mul _ _
  have hr1 : ¬ r.num < 0 → ((r.num.natAbs * t.den : Nat) : Int) = r.num * t.den := fun hh => by rw [hN, show (r.num.natAbs : Int) = r.num by omega]
  have hr2 : r.num < 0 → ((r.num.natAbs * t.den : Nat) : Int) = -(r.num * t.den) := fun hh => by rw [hN, show (r.num.natAbs : Int) = -r.num by omega, Int.neg_mul]
  have ht1 : ¬ t.num < 0 → ((t.num.natAbs * r.den : Nat) : Int) = t.num * r.den := fun hh => by rw [hM, show (t.num.natAbs : Int) = t.num by omega]
  have ht2 : t.num < 0 → ((t.num.natAbs * r.den : Nat) : Int) = -(t.num * r.den) := fun hh => by rw [hM, show (t.num.natAbs : Int) = -t.num by omega, Int.neg_mul]
  generalize r.num.natAbs * t.den = N at *
  generalize t.num.natAbs * r.den = M at *
  have same : decide (r.num < 0) = decide (t.num < 0) → rq (decide (r.num < 0)) (N + M) (r.den * t.den) = r + t := by
    intro e
    rw [← rq_add]
    unfold rq
    by_cases h1 : r.num < 0
    · have h2 : t.num < 0 := by rw [decide_eq_true h1] at e; exact of_decide_eq_true e.symm
      have e1 := hr2 h1
      have e2 := ht2 h2
      rw [decide_eq_true h1, if_pos rfl, Rat.neg_mkRat]
      congr 1
      omega
    · have h2 : ¬ t.num < 0 := by rw [decide_eq_false h1] at e; exact of_decide_eq_false e.symm
      have e1 := hr1 h1
      have e2 := ht1 h2
      rw [decide_eq_false h1, if_neg (by decide)]
      congr 1
      omega
  have left : decide (r.num < 0) ≠ decide (t.num < 0) → M ≤ N → rq (decide (r.num < 0)) (N - M) (r.den * t.den) = r + t := by
    intro e hle
    rw [← rq_add]
    unfold rq
    by_cases h1 : r.num < 0
    · have h2 : ¬ t.num < 0 := fun h2 => e (by rw [decide_eq_true h1, decide_eq_true h2])
      have e1 := hr2 h1
      have e2 := ht1 h2
      rw [decide_eq_true h1, if_pos rfl, Rat.neg_mkRat]
      congr 1
      omega
    · have h2 : t.num < 0 := Decidable.byContradiction fun h2 => e (by rw [decide_eq_false h1, decide_eq_false h2])
      have e1 := hr1 h1
      have e2 := ht2 h2
      rw [decide_eq_false h1, if_neg (by decide)]
      congr 1
      omega
  have right : decide (r.num < 0) ≠ decide (t.num < 0) → N < M → rq (decide (t.num < 0)) (M - N) (r.den * t.den) = r + t := by
    intro e hle
    rw [← rq_add]
    unfold rq
    by_cases h1 : r.num < 0
    · have h2 : ¬ t.num < 0 := fun h2 => e (by rw [decide_eq_true h1, decide_eq_true h2])
      have e1 := hr2 h1
      have e2 := ht1 h2
      rw [decide_eq_false h2, if_neg (by decide)]
      congr 1
      omega
    · have h2 : t.num < 0 := Decidable.byContradiction fun h2 => e (by rw [decide_eq_false h1, decide_eq_false h2])
      have e1 := hr1 h1
      have e2 := ht2 h2
      rw [decide_eq_true h2, if_pos rfl, Rat.neg_mkRat]
      congr 1
      omega
  clear hN hM hr1 hr2 ht1 ht2
  refine Ev_isoR rfl rfl rfl (re_agg2 (flats3 rfl (Lim.flat a1) (Lim.flat a2)) (flats3 rfl (Lim.flat c1) (Lim.flat c2))) (fn := Go.Proofs.Tryz.f291) rfl rfl rfl ?_
  show WC E _ ⟨(Tr.leaf.set 0 _).set 1 _, 66, _, _⟩ _
  repeat first | refine WC_seq ?_ | refine WC_block ?_ | refine WC_region ?_
  apply WO_bx (hn := rfl)
  exact lk
  · exact bx3 rfl (Lim.cell a1) (Lim.cell a2)
  apply WO_bx (hn := rfl)
  exact lk
  · exact bx3 rfl (Lim.cell c1) (Lim.cell c2)
  apply WO_al (hn := rfl)
  · exact rfl
  rw [show PM.empty.next = 0 from rfl, show (PM.empty.new (.cells [.bool s, pa, pb] 0 false 36)).next = 1 from rfl, show ((PM.empty.new (.cells [.bool s, pa, pb] 0 false 36)).new (.cells [.bool s', pa', pb'] 0 false 36)).next = 2 from rfl]
  have b0 := three_get0 (x := .cells [.bool s, pa, pb] 0 false 36) (y := .cells [.bool s', pa', pb'] 0 false 36) (z := .cells [.bool false, .nils, .nils] 0 false 36)
  have b1 := three_get1 (x := .cells [.bool s, pa, pb] 0 false 36) (y := .cells [.bool s', pa', pb'] 0 false 36) (z := .cells [.bool false, .nils, .nils] 0 false 36)
  have b2 := three_get2 (x := .cells [.bool s, pa, pb] 0 false 36) (y := .cells [.bool s', pa', pb'] 0 false 36) (z := .cells [.bool false, .nils, .nils] 0 false 36)
  generalize ((PM.empty.new (.cells [.bool s, pa, pb] 0 false 36)).new (.cells [.bool s', pa', pb'] 0 false 36)).new (.cells [.bool false, .nils, .nils] 0 false 36) = me at *
  refine WO_nil ?_; show WC E _ _ _; repeat first | refine WC_seq ?_ | refine WC_block ?_ | refine WC_region ?_
  (apply WC_draw; (focus exact rfl))
  apply WD_ld (hn := rfl)
  exact lk
  · exact ty36
  · exact ld3 ty36.symm b0
  apply WD_ca (hn := rfl)
  · exact evs1 lk
  · exact hv2 me
  · exact rfl
  apply WD_ld (hn := rfl)
  exact lk
  · exact ty36
  · exact ld3 ty36.symm b1
  apply WD_ca (hn := rfl)
  · exact evs1 lk
  · exact hw2 me
  · exact rfl
  apply WD_st
  exact lk
  exact lk
  · exact st3 b0 rfl (Lim.cell k1) (Lim.cell k2)
  apply WD_st
  exact lk
  exact lk
  · exact st3 (x := .bool s') (y := pa') (z := pb') (et := 36) (by rw [PM.get_upd, if_neg (by decide)]; exact b1) rfl (Lim.cell l1) (Lim.cell l2)
  refine WD_nil ⟨?_, ?_⟩
  · have s1 := sameRead_me b1 c1 c2
    have s0 := sameRead_me b0 a1 a2
    simp only [trOk, okAll, okOne, okPair, s1, s0, Bool.or_true, Bool.true_and, Bool.and_true]
    rfl
  have b3 : ((me.upd 0 (.cells [.bool (decide (r.num < 0)), pn, pd] 0 false 36)).upd 1 (.cells [.bool (decide (t.num < 0)), pn', pd'] 0 false 36)).get 0 = some (.cells [.bool (decide (r.num < 0)), pn, pd] 0 false 36) := by rw [PM.get_upd, if_neg (by decide), PM.get_upd, if_pos rfl]
  have b4 : ((me.upd 0 (.cells [.bool (decide (r.num < 0)), pn, pd] 0 false 36)).upd 1 (.cells [.bool (decide (t.num < 0)), pn', pd'] 0 false 36)).get 1 = some (.cells [.bool (decide (t.num < 0)), pn', pd'] 0 false 36) := by rw [PM.get_upd, if_pos rfl]
  have b5 : ((me.upd 0 (.cells [.bool (decide (r.num < 0)), pn, pd] 0 false 36)).upd 1 (.cells [.bool (decide (t.num < 0)), pn', pd'] 0 false 36)).get 2 = some (.cells [.bool false, .nils, .nils] 0 false 36) := by rw [PM.get_upd, if_neg (by decide), PM.get_upd, if_neg (by decide)]; exact b2
  generalize (me.upd 0 (.cells [.bool (decide (r.num < 0)), pn, pd] 0 false 36)).upd 1 (.cells [.bool (decide (t.num < 0)), pn', pd'] 0 false 36) = me2 at *
  show WC E _ _ _; repeat first | refine WC_seq ?_ | refine WC_block ?_ | refine WC_region ?_
  (apply WC_draw; (focus exact rfl))
  apply WD_fa (hn := rfl)
  exact lk
  · exact rfl
  apply WD_ld (hn := rfl)
  exact lk
  · exact ty34'
  · exact ld3_1 rfl rfl rfl b3
  apply WD_fa (hn := rfl)
  exact lk
  · exact rfl
  apply WD_ld (hn := rfl)
  exact lk
  · exact ty34'
  · exact ld3_2 rfl rfl rfl b4
  apply WD_pu (hn := rfl)
  · apply evs2
    exact lk
    exact lk
  · exact x2 me2
  · exact pure_of rfl rfl (flats2 (Lim.flat k1) (Lim.flat l2))
  apply WD_fa (hn := rfl)
  exact lk
  · exact rfl
  apply WD_ld (hn := rfl)
  exact lk
  · exact ty34'
  · exact ld3_1 rfl rfl rfl b4
  apply WD_fa (hn := rfl)
  exact lk
  · exact rfl
  apply WD_ld (hn := rfl)
  exact lk
  · exact ty34'
  · exact ld3_2 rfl rfl rfl b3
  apply WD_pu (hn := rfl)
  · apply evs2
    exact lk
    exact lk
  · exact x4 me2
  · exact pure_of rfl rfl (flats2 (Lim.flat l1) (Lim.flat k2))
  apply WD_fa (hn := rfl)
  exact lk
  · exact rfl
  apply WD_ld (hn := rfl)
  exact lk
  · exact ty34'
  · exact ld3_2 rfl rfl rfl b3
  apply WD_fa (hn := rfl)
  exact lk
  · exact rfl
  apply WD_ld (hn := rfl)
  exact lk
  · exact ty34'
  · exact ld3_2 rfl rfl rfl b4
  apply WD_pu (hn := rfl)
  · apply evs2
    exact lk
    exact lk
  · exact x6 me2
  · exact pure_of rfl rfl (flats2 (Lim.flat k2) (Lim.flat l2))
  (apply WD_as (hn := rfl); exact lk; apply WD_as (hn := rfl); exact lk; apply WD_as (hn := rfl); exact lk)
  refine WD_nil ⟨rfl, ?_⟩
  show WC E _ _ _
  repeat first | refine WC_seq ?_ | refine WC_block ?_ | refine WC_region ?_
  apply WO_fa (hn := rfl)
  exact lk
  · exact rfl
  apply WO_ld (hn := rfl)
  exact lk
  · exact ld3_0 rfl rfl rfl b3
  apply WO_fa (hn := rfl)
  exact lk
  · exact rfl
  apply WO_ld (hn := rfl)
  exact lk
  · exact ld3_0 rfl rfl rfl b4
  apply WO_bin (hn := rfl)
  exact lk
  exact lk
  · exact b_eqlB ty4
  refine WO_nil ?_
  show WC E _ _ _
  repeat first | refine WC_seq ?_ | refine WC_block ?_ | refine WC_region ?_
  apply WC_cond; (focus (apply condOf_t; (focus (first | (apply evo_t; (repeat (first | exact get_hit | assumption | refine get_miss rfl ?_ | fail)); done) | (exact rfl) | fail))))
  · intro hc
    have hc := same (of_decide_eq_true hc)
    obtain ⟨q, e5, e6⟩ := rat_Of (s := decide (r.num < 0)) y1 x5 (ok_lm _) (ok_lm _) (by have := lm_add_len m1 m2; omega) (by omega)
    rw [nv_lm, nv_lm, hc] at e5
    have e5' := e5
    obtain ⟨qa, qb, rfl, f1, f0, f2⟩ := e5'
    repeat first | refine WC_seq ?_ | refine WC_block ?_ | refine WC_region ?_
    (apply WC_draw; (focus exact rfl))
    apply WD_fa (hn := rfl)
    exact lk
    · exact rfl
    apply WD_ld (hn := rfl)
    exact lk
    · exact ty4
    · exact ld3_0 rfl rfl rfl b3
    (apply WD_mv (hn := rfl); exact lk; apply WD_mv (hn := rfl); exact lk)
    apply WD_pu (hn := rfl)
    · apply evs2
      exact lk
      exact lk
    · exact y2 me2
    · exact pure_of rfl rfl (flats2 (Lim.flat x1) (Lim.flat x3))
    (apply WD_mv (hn := rfl); exact lk)
    apply WD_pu (hn := rfl)
    · apply evs3
      exact lk
      exact lk
      exact lk
    · exact e6 me2
    · exact pure_of rfl rfl (flats3 rfl (Lim.flat y1) (Lim.flat x5))
    apply WD_st
    exact lk
    exact lk
    · exact st3 b5 rfl (Lim.cell f1) (Lim.cell f2)
    refine WD_nil ⟨rfl, ?_⟩
    show WC E _ _ _
    refine WC_ret ?_
    show BodyQ _ _ _ _ _
    exact fin3c rfl ex_ret rfl gk (by rw [PM.get_upd, if_pos rfl]) ⟨_, _, reify_a3 rfl (Lim.flat f1) (Lim.flat f2), e5⟩
  · intro hc
    have hne : decide (r.num < 0) ≠ decide (t.num < 0) := of_decide_eq_false hc
    refine WC_skip ?_
    show WC E _ _ _; repeat first | refine WC_seq ?_ | refine WC_block ?_ | refine WC_region ?_
    (apply WO_mv (hn := rfl); exact lk; apply WO_mv (hn := rfl); exact lk)
    by_cases hle : M ≤ N
    · obtain ⟨p1, z1, z2⟩ := sub1.1 hle
      obtain ⟨q, e5, e6⟩ := rat_Of (s := decide (r.num < 0)) z1 x5 (ok_lm _) (ok_lm _) (by have := lm_mono (show N - M ≤ N by omega); omega) (by omega)
      rw [nv_lm, nv_lm, left hne hle] at e5
      have e5' := e5
      obtain ⟨qa, qb, rfl, f1, f0, f2⟩ := e5'
      apply WO_ca (hn := rfl) (.tup [p1, .bool true]) me2
      · apply evs2
        exact lk
        exact lk
      · exact z2 me2
      (apply WO_mv (hn := rfl); exact lk; apply WO_ex (hn := rfl); exact lk; exact rfl; apply WO_ex (hn := rfl); exact lk; exact rfl; apply WO_as (hn := rfl); exact lk; apply WO_as (hn := rfl); exact lk)
      refine WO_nil ?_; show WC E _ _ _; repeat first | refine WC_seq ?_ | refine WC_block ?_ | refine WC_region ?_
      (apply WO_mv (hn := rfl); exact lk)
      refine WO_nil ?_
      show WC E _ _ _
      apply WC_true
      · apply condOf_t
        exact lk
      repeat first | refine WC_seq ?_ | refine WC_block ?_ | refine WC_region ?_
      apply WO_fa (hn := rfl)
      exact lk
      · exact rfl
      apply WO_ld (hn := rfl)
      exact lk
      · exact ld3_0 rfl rfl rfl b3
      (apply WO_mv (hn := rfl); exact lk; apply WO_mv (hn := rfl); exact lk)
      apply WO_ca (hn := rfl) (.agg [.bool (decide ((r + t).num < 0)), qa, qb]) me2
      · apply evs3
        exact lk
        exact lk
        exact lk
      · exact e6 me2
      apply WO_st
      exact lk
      exact lk
      · exact st3 b5 rfl (Lim.cell f1) (Lim.cell f2)
      refine WO_nil ?_
      show WC E _ _ _
      refine WC_ret ?_
      show BodyQ _ _ _ _ _
      exact fin3c rfl ex_ret rfl gk (by rw [PM.get_upd, if_pos rfl]) ⟨_, _, reify_a3 rfl (Lim.flat f1) (Lim.flat f2), e5⟩
    · have hlt : N < M := by omega
      have z0 := sub1.2 hlt
      obtain ⟨p1, z1, z2⟩ := sub2.1 (by omega)
      obtain ⟨q, e5, e6⟩ := rat_Of (s := decide (t.num < 0)) z1 x5 (ok_lm _) (ok_lm _) (by have := lm_mono (show M - N ≤ M by omega); omega) (by omega)
      rw [nv_lm, nv_lm, right hne hlt] at e5
      have e5' := e5
      obtain ⟨qa, qb, rfl, f1, f0, f2⟩ := e5'
      apply WO_ca (hn := rfl) (.tup [.nils, .bool false]) me2
      · apply evs2
        exact lk
        exact lk
      · exact z0 me2
      (apply WO_mv (hn := rfl); exact lk; apply WO_ex (hn := rfl); exact lk; exact rfl; apply WO_ex (hn := rfl); exact lk; exact rfl; apply WO_as (hn := rfl); exact lk; apply WO_as (hn := rfl); exact lk)
      refine WO_nil ?_; show WC E _ _ _; repeat first | refine WC_seq ?_ | refine WC_block ?_ | refine WC_region ?_
      (apply WO_mv (hn := rfl); exact lk)
      refine WO_nil ?_
      show WC E _ _ _
      apply WC_false
      · apply condOf_t
        exact lk
      refine WC_skip ?_
      show WC E _ _ _; repeat first | refine WC_seq ?_ | refine WC_block ?_ | refine WC_region ?_
      (apply WO_mv (hn := rfl); exact lk; apply WO_mv (hn := rfl); exact lk)
      apply WO_ca (hn := rfl) (.tup [p1, .bool true]) me2
      · apply evs2
        exact lk
        exact lk
      · exact z2 me2
      (apply WO_mv (hn := rfl); exact lk; apply WO_ex (hn := rfl); exact lk; exact rfl; apply WO_ex (hn := rfl); exact lk; exact rfl; apply WO_as (hn := rfl); exact lk; apply WO_as (hn := rfl); exact lk)
      refine WO_nil ?_; show WC E _ _ _; repeat first | refine WC_seq ?_ | refine WC_block ?_ | refine WC_region ?_
      apply WO_fa (hn := rfl)
      exact lk
      · exact rfl
      apply WO_ld (hn := rfl)
      exact lk
      · exact ld3_0 rfl rfl rfl b4
      (apply WO_mv (hn := rfl); exact lk; apply WO_mv (hn := rfl); exact lk)
      apply WO_ca (hn := rfl) (.agg [.bool (decide ((r + t).num < 0)), qa, qb]) me2
      · apply evs3
        exact lk
        exact lk
        exact lk
      · exact e6 me2
      apply WO_st
      exact lk
      exact lk
      · exact st3 b5 rfl (Lim.cell f1) (Lim.cell f2)
      refine WO_nil ?_
      show WC E _ _ _
      refine WC_ret ?_
      show BodyQ _ _ _ _ _
      exact fin3c rfl ex_ret rfl gk (by rw [PM.get_upd, if_pos rfl]) ⟨_, _, reify_a3 rfl (Lim.flat f1) (Lim.flat f2), e5⟩

theorem Bd.inv {L : Nat} {t : Rat} (h : Bd L t) (h0 : t ≠ 0) : Bd L t⁻¹ := by
  have hn : t.num ≠ 0 := fun e => h0 (Rat.num_eq_zero.1 e)
  refine ⟨?_, ?_⟩
  · rw [Rat.num_inv]
    have : (t.num.sign * (t.den : Int)).natAbs = t.den := by
      rw [Int.natAbs_mul, Int.natAbs_sign_of_ne_zero hn, Int.natAbs_natCast, Nat.one_mul]
    rw [this]; exact h.2
  · rw [Rat.den_inv, if_neg hn]; exact h.1

theorem rat_Div {r t : Rat} {v w : PV} (h : RatW r v) (h' : RatW t w) (hb : Bd 100000 r) (hb' : Bd 100000 t) (h0 : t ≠ 0) : ∃ q, RatP (r * t⁻¹) q ∧ ∀ m, Ev E 302 [v, w] m (.tup [q, .bool true]) m := by
  suffices hh : ∃ u, (∃ q, u = .tup [q, .bool true] ∧ RatP (r * t⁻¹) q) ∧ ∀ m, Ev E 302 [v, w] m u m by
    obtain ⟨u, ⟨q, rfl, h1⟩, h2⟩ := hh
    exact ⟨q, h1, h2⟩
  obtain ⟨w1, hw, hw2⟩ := rat_Norm h'
  have h₀ := h
  obtain ⟨s, pa, pb, a, b, rfl, a1, a2, a3, a4, a5, a6, a7⟩ := h
  obtain ⟨s', pa', pb', a', b', rfl, c1, c2, c3, c4, c5, c6, c7⟩ := h'
  obtain ⟨pn', pd', rfl, l1, l0, l2⟩ := hw
  have n3 := hb'.1
  have n4 := hb'.2
  have hinv : RatW t⁻¹ (.agg [.bool (decide (t.num < 0)), pd', pn']) := ⟨_, pd', pn', _, _, rfl, l2, l1, ok_lm _, ok_lm _, by omega, by omega, by rw [nv_lm, nv_lm]; exact rq_inv h0⟩
  obtain ⟨q, e1, e2⟩ := rat_Mul h₀ hinv hb (hb'.inv h0)
  have e1' := e1
  obtain ⟨qa, qb, rfl, f1, f0, f2⟩ := e1'
  have hlen : (lm t.num.natAbs).length ≠ 0 := fun e => h0 (num_nil.1 e)
  refine Ev_isoR rfl rfl rfl (re_agg2 (flats3 rfl (Lim.flat a1) (Lim.flat a2)) (flats3 rfl (Lim.flat c1) (Lim.flat c2))) (fn := Go.Proofs.Tryz.f302) rfl rfl rfl ?_
  show WC E _ ⟨(Tr.leaf.set 0 _).set 1 _, 22, _, _⟩ _
  repeat first | refine WC_seq ?_ | refine WC_block ?_ | refine WC_region ?_
  apply WO_bx (hn := rfl)
  exact lk
  · exact bx3 rfl (Lim.cell a1) (Lim.cell a2)
  apply WO_bx (hn := rfl)
  exact lk
  · exact bx3 rfl (Lim.cell c1) (Lim.cell c2)
  apply WO_al (hn := rfl)
  · exact rfl
  rw [show PM.empty.next = 0 from rfl, show (PM.empty.new (.cells [.bool s, pa, pb] 0 false 36)).next = 1 from rfl, show ((PM.empty.new (.cells [.bool s, pa, pb] 0 false 36)).new (.cells [.bool s', pa', pb'] 0 false 36)).next = 2 from rfl]
  have b0 := three_get0 (x := .cells [.bool s, pa, pb] 0 false 36) (y := .cells [.bool s', pa', pb'] 0 false 36) (z := .cells [.bool false, .nils, .nils] 0 false 36)
  have b1 := three_get1 (x := .cells [.bool s, pa, pb] 0 false 36) (y := .cells [.bool s', pa', pb'] 0 false 36) (z := .cells [.bool false, .nils, .nils] 0 false 36)
  have b2 := three_get2 (x := .cells [.bool s, pa, pb] 0 false 36) (y := .cells [.bool s', pa', pb'] 0 false 36) (z := .cells [.bool false, .nils, .nils] 0 false 36)
  generalize ((PM.empty.new (.cells [.bool s, pa, pb] 0 false 36)).new (.cells [.bool s', pa', pb'] 0 false 36)).new (.cells [.bool false, .nils, .nils] 0 false 36) = me at *
  (apply WO_as (hn := rfl); exact lk)
  refine WO_nil ?_; show WC E _ _ _; repeat first | refine WC_seq ?_ | refine WC_block ?_ | refine WC_region ?_
  apply WO_ld (hn := rfl)
  exact lk
  · exact ld3 rfl b1
  apply WO_ca (hn := rfl) (.agg [.bool (decide (t.num < 0)), pn', pd']) me
  · exact evs1 lk
  · exact hw2 me
  apply WO_st
  exact lk
  exact lk
  · exact st3 b1 rfl (Lim.cell l1) (Lim.cell l2)
  have b3 : (me.upd 1 (.cells [.bool (decide (t.num < 0)), pn', pd'] 0 false 36)).get 0 = some (.cells [.bool s, pa, pb] 0 false 36) := by rw [PM.get_upd, if_neg (by decide)]; exact b0
  have b4 : (me.upd 1 (.cells [.bool (decide (t.num < 0)), pn', pd'] 0 false 36)).get 1 = some (.cells [.bool (decide (t.num < 0)), pn', pd'] 0 false 36) := by rw [PM.get_upd, if_pos rfl]
  have b5 : (me.upd 1 (.cells [.bool (decide (t.num < 0)), pn', pd'] 0 false 36)).get 2 = some (.cells [.bool false, .nils, .nils] 0 false 36) := by rw [PM.get_upd, if_neg (by decide)]; exact b2
  generalize me.upd 1 (.cells [.bool (decide (t.num < 0)), pn', pd'] 0 false 36) = me2 at *
  refine WO_nil ?_; show WC E _ _ _; repeat first | refine WC_seq ?_ | refine WC_block ?_ | refine WC_region ?_
  apply WO_fa (hn := rfl)
  exact lk
  · exact rfl
  apply WO_ld (hn := rfl)
  exact lk
  · exact ld3_1 rfl rfl rfl b4
  (apply WO_b1 (hn := rfl) (hb := rfl); exact lk; exact nk; apply WO_bin (hn := rfl); exact lk; exact lk; exact bk)
  refine WO_nil ?_
  show WC E _ _ _
  repeat first | refine WC_seq ?_ | refine WC_block ?_ | refine WC_region ?_
  apply WC_cond; (focus (apply condOf_t; (focus (first | (apply evo_t; (repeat (first | exact get_hit | assumption | refine get_miss rfl ?_ | fail)); done) | (exact rfl) | fail))))
  · intro hc
    exact absurd (of_decide_eq_true hc) (by omega)
  · intro _
    refine WC_skip ?_
    show WC E _ _ _; repeat first | refine WC_seq ?_ | refine WC_block ?_ | refine WC_region ?_
    apply WO_ld (hn := rfl)
    exact lk
    · exact ld3 rfl b3
    apply WO_fa (hn := rfl)
    exact lk
    · exact rfl
    apply WO_ld (hn := rfl)
    exact lk
    · exact ld3_0 rfl rfl rfl b4
    apply WO_fa (hn := rfl)
    exact lk
    · exact rfl
    apply WO_ld (hn := rfl)
    exact lk
    · exact ld3_2 rfl rfl rfl b4
    apply WO_fa (hn := rfl)
    exact lk
    · exact rfl
    apply WO_ld (hn := rfl)
    exact lk
    · exact ld3_1 rfl rfl rfl b4
    apply WO_bd (hn := rfl)
    · apply evps3
      exact lk
      exact lk
      exact lk
    · exact (show _ = some (PV.agg [.bool (decide (t.num < 0)), pd', pn']) from by
        rcases l1 with ⟨_, rfl⟩ | ⟨_, rfl⟩ <;> rcases l2 with ⟨_, rfl⟩ | ⟨_, rfl⟩ <;> rfl)
    apply WO_ca (hn := rfl) (.agg [.bool (decide ((r * t⁻¹).num < 0)), qa, qb]) me2
    · apply evs2
      exact lk
      exact lk
    · exact e2 me2
    apply WO_st
    exact lk
    exact lk
    · exact st3 b5 rfl (Lim.cell f1) (Lim.cell f2)
    (apply WO_as (hn := rfl); exact lk)
    refine WO_nil ?_
    show WC E _ _ _
    refine WC_ret ?_
    show BodyQ _ _ _ _ _
    have b6 : (me2.upd 2 (.cells [.bool (decide ((r * t⁻¹).num < 0)), qa, qb] 0 false 36)).get 2 = some (.cells [.bool (decide ((r * t⁻¹).num < 0)), qa, qb] 0 false 36) := by rw [PM.get_upd, if_pos rfl]
    refine finct rfl ex_ret rfl gk b6 gk ?_
    exact ⟨_, _, reify_ta rfl (Lim.flat f1) (Lim.flat f2), _, rfl, e1⟩
end Go.Ab.T
/- rat.Is. -/
open Go Go.Ab
namespace Go.Ab.T
set_option maxRecDepth 10000
set_option maxHeartbeats 2000000
set_option linter.unusedSimpArgs false
attribute [local irreducible] Tr.get Tr.set

/-- in normal form, but that an empty row may stand for none -/
def RatC (r : Rat) (v : PV) : Prop := ∃ pn pd, v = .agg [.bool (decide (r.num < 0)), pn, pd] ∧ Lim (lm r.num.natAbs) pn ∧ Lim (lm r.den) pd
theorem RatP.c {r : Rat} {v : PV} (h : RatP r v) : RatC r v := by
  obtain ⟨pn, pd, h1, h2, _, h3⟩ := h
  exact ⟨pn, pd, h1, h2, h3⟩
theorem RatC.w {r : Rat} {v : PV} (h : RatC r v) (hb : Bd 299999 r) : RatW r v := by
  obtain ⟨pn, pd, rfl, h1, h2⟩ := h
  have b1 := hb.1
  have b2 := hb.2
  exact ⟨_, pn, pd, _, _, rfl, h1, h2, ok_lm _, ok_lm _, by omega, by omega, by rw [nv_lm, nv_lm]; exact rq_self r⟩

theorem rat_Is {r : Rat} {v : PV} (h : RatC r v) (hb : Bd 299999 r) (m : PM) : Ev E 128 [v] m (.bool true) m := by
  obtain ⟨pn, pd, rfl, k1, k2⟩ := h
  have b1 := hb.1
  have b2 := hb.2
  have hden : (lm r.den).length ≠ 0 := fun e => r.den_nz (lm_nil.1 (List.length_eq_zero_iff.1 e))
  have i1 := nat_Is k1 (by omega)
  have i2 := nat_Is k2 (by omega)
  rw [trm_lm] at i1 i2
  obtain ⟨pg, g1, g2⟩ := nat_Gcd k1 k2 (ok_lm _) (ok_lm _) (by omega) (by omega)
  rw [nv_lm, nv_lm, show Nat.gcd r.num.natAbs r.den = 1 from r.reduced] at g1
  obtain ⟨po, o1, o2⟩ := nat_Of (n := 1) (by decide)
  have hcmp := nat_Cmp g1 o1 (ok_lm _) (ok_lm _) (by rw [lm_one]; decide) (by rw [lm_one]; decide)
  suffices hh : ∃ q, q = PV.bool true ∧ ∀ m, Ev E 128 [.agg [.bool (decide (r.num < 0)), pn, pd]] m q m by
    obtain ⟨q, rfl, hh⟩ := hh
    exact hh m
  refine Ev_isoR rfl rfl rfl (re_agg (flats3 rfl (Lim.flat k1) (Lim.flat k2))) (fn := Go.Proofs.Tryz.f128) rfl rfl rfl ?_
  show WC E _ ⟨Tr.leaf.set 0 _, 37, _, _⟩ _
  have hsign : ∀ {sg : Bool}, sg = decide (r.num < 0) → sg = true → (lm r.num.natAbs).length ≠ 0 := fun hs ht e => by
    have := num_nil.1 e
    subst this
    rw [ht] at hs
    exact absurd hs (by decide)
  generalize hsg : decide (r.num < 0) = sg at *
  have hsign := hsign rfl
  repeat first | refine WC_seq ?_ | refine WC_block ?_ | refine WC_region ?_
  apply WO_bx (hn := rfl)
  exact lk
  · exact bx3 rfl (Lim.cell k1) (Lim.cell k2)
  rw [show PM.empty.next = 0 from rfl]
  have b0 : (PM.empty.new (.cells [.bool sg, pn, pd] 0 false 36)).get 0 = some (.cells [.bool sg, pn, pd] 0 false 36) := one_get0
  generalize PM.empty.new (.cells [.bool sg, pn, pd] 0 false 36) = me at *
  (apply WO_as (hn := rfl); exact lk)
  refine WO_nil ?_; show WC E _ _ _; repeat first | refine WC_seq ?_ | refine WC_block ?_ | refine WC_region ?_
  refine WO.mono (Q := fun s' => ∃ tm, s' = ⟨tm, 37, me, []⟩ ∧ tm.get 1 = some (.ptr 0 0 0) ∧ tm.get 28 = some (.bool false)) ?_ ?_
  · apply WO_fa (hn := rfl)
    exact lk
    · exact rfl
    apply WO_ld (hn := rfl)
    exact lk
    · exact ld3_1 rfl rfl rfl b0
    apply WO_ca (hn := rfl) (.bool true) me
    · exact evs1 lk
    · exact i1 me
    (apply WO_un (hn := rfl); exact lk; exact u_not; apply WO_mv (hn := rfl); exact lk; apply WO_gt; exact uk)
    apply WO_fa (hn := rfl)
    exact lk
    · exact rfl
    (apply WO_gt; exact uk)
    apply WO_ld (hn := rfl)
    exact lk
    · exact ld3_2 rfl rfl rfl b0
    (apply WO_gt; exact uk)
    apply WO_ca (hn := rfl) (.bool true) me
    · exact evs1 lk
    · exact i2 me
    (apply WO_gt; exact uk; apply WO_un (hn := rfl); exact lk; exact u_not)
    apply WO_pkf (hn := rfl)
    exact lk
    · exact rfl
    exact lk
    (apply WO_mv (hn := rfl); exact lk; apply WO_gt; exact uk)
    apply WO_fa (hn := rfl)
    exact lk
    · exact rfl
    (apply WO_gt; exact uk)
    apply WO_ld (hn := rfl)
    exact lk
    · exact ld3_2 rfl rfl rfl b0
    (apply WO_gt; exact uk; apply WO_b1 (hn := rfl) (hb := rfl); exact lk; exact nk; apply WO_gt; exact uk; apply WO_bin (hn := rfl); exact lk; exact lk; exact bk)
    apply WO_pkf (hn := rfl)
    exact lk
    · exact rfl
    exact lk
    (apply WO_mv (hn := rfl); exact lk; apply WO_gt; exact uk)
    apply WO_fa (hn := rfl)
    exact lk
    · exact rfl
    (apply WO_gt; exact uk)
    apply WO_ld (hn := rfl)
    exact lk
    · exact ld3_0 rfl rfl rfl b0
    cases sg
    · (apply WO_gt; exact uk; apply WO_mv (hn := rfl); exact lk; apply WO_gf; exact uk; exact rfl; apply WO_gf; exact uk; exact rfl; apply WO_gf; exact uk; exact rfl; apply WO_gf; exact uk; exact rfl; apply WO_gt; exact uk)
      apply WO_pkf (hn := rfl)
      exact lk
      · exact rfl
      · exact rfl
      skip
      apply WO_pkf (hn := rfl)
      exact lk
      · exact decide_eq_false (by omega)
      exact lk
      exact WO_nil ⟨_, rfl, gk, gk⟩
    · have hl := hsign rfl
      (apply WO_gt; exact uk; apply WO_mv (hn := rfl); exact lk; apply WO_gt; exact uk)
      apply WO_fa (hn := rfl)
      exact lk
      · exact rfl
      (apply WO_gt; exact uk)
      apply WO_ld (hn := rfl)
      exact lk
      · exact ld3_1 rfl rfl rfl b0
      (apply WO_gt; exact uk; apply WO_b1 (hn := rfl) (hb := rfl); exact lk; exact nk; apply WO_gt; exact uk; apply WO_bin (hn := rfl); exact lk; exact lk; exact bk; apply WO_gt; exact uk)
      apply WO_pkt (hn := rfl)
      exact lk
      · exact rfl
      exact lk
      skip
      apply WO_pkf (hn := rfl)
      exact lk
      · exact decide_eq_false (by omega)
      exact lk
      refine WO_nil ⟨_, rfl, gk, ?_⟩
      rw [get_hit, decide_eq_false (show ¬ ((lm r.num.natAbs).length : Int) = 0 by omega)]
  rintro _ ⟨tm, rfl, g1', g28⟩
  show WC E _ _ _
  repeat first | refine WC_seq ?_ | refine WC_block ?_ | refine WC_region ?_
  apply WC_false
  · apply condOf_t
    exact lk
  refine WC_skip ?_
  show WC E _ _ _; repeat first | refine WC_seq ?_ | refine WC_block ?_ | refine WC_region ?_
  apply WO_fa (hn := rfl)
  exact lk
  · exact rfl
  apply WO_ld (hn := rfl)
  exact lk
  · exact ld3_1 rfl rfl rfl b0
  apply WO_fa (hn := rfl)
  exact lk
  · exact rfl
  apply WO_ld (hn := rfl)
  exact lk
  · exact ld3_2 rfl rfl rfl b0
  apply WO_ca (hn := rfl) pg me
  · apply evs2
    exact lk
    exact lk
  · exact g2 me
  apply WO_ca (hn := rfl) po me
  · exact evs1 rfl
  · exact o2 me
  apply WO_ca (hn := rfl) (.int .i64 (cmpI (nv (lm 1)) (nv (lm 1)))) me
  · apply evs2
    exact lk
    exact lk
  · exact hcmp me
  (apply WO_bin (hn := rfl); exact lk; exact lk; exact bk; apply WO_as (hn := rfl); exact lk)
  refine WO_nil ?_
  show WC E _ _ _
  refine WC_ret ?_
  show BodyQ _ _ _ _ _
  refine fin1 rfl ex_ret rfl get_hit ⟨_, me, rfl, ?_⟩
  rw [nv_lm]; rfl
end Go.Ab.T
/- Rows of bytes: append, slices.Reverse. -/
open Go Go.Ab
namespace Go.Ab.T
set_option maxRecDepth 10000
set_option maxHeartbeats 2000000
set_option linter.unusedSimpArgs false
attribute [local irreducible] Tr.get Tr.set

def cb (a : List Nat) : List PV := a.map fun (n : Nat) => PV.int .u8 (n : Int)
def OkB (a : List Nat) : Prop := ∀ x ∈ a, x < 256
theorem cb_length {a : List Nat} : (cb a).length = a.length := by simp [cb]
theorem cb_append {a b : List Nat} : cb (a ++ b) = cb a ++ cb b := by simp [cb]
theorem cb_get {a : List Nat} {i : Nat} : (cb a)[i]? = (a[i]?).map fun (n : Nat) => PV.int .u8 (n : Int) := by simp [cb]
theorem ty40 : E.ty 40 = some ⟨.slice 5 1 1 (some [.int .u8 0]), 1, some [.nils]⟩ := rfl
theorem ty5 : E.ty 5 = some ⟨.int .u8, 1, some [.int .u8 0]⟩ := rfl
theorem ty9 : E.ty 9 = some ⟨.string, 1, some [.str []]⟩ := rfl
theorem cut1_b {a : List Nat} {i x : Nat} (hx : a[i]? = some x) : cutN (cb a) i 1 = some [PV.int .u8 (x : Int)] := by
  have hi : i < a.length := (List.getElem?_eq_some_iff.1 hx).1
  unfold cutN
  have e : Nat.ble (Nat.add i 1) (cb a).length = true := by rw [cb_length]; exact Nat.ble_eq_true_of_le hi
  rw [e]
  have hd : (cb a).drop i = .int .u8 (x : Int) :: (cb a).drop (i + 1) := by
    rw [List.drop_eq_getElem_cons (by rw [cb_length]; exact hi)]
    congr 1
    have := cb_get (a := a) (i := i)
    rw [hx, List.getElem?_eq_getElem (by rw [cb_length]; exact hi)] at this
    simpa using this
  rw [hd]; rfl
theorem ld_b {t : Option TI} {zz : Option (List PV)} (ht : t = some ⟨.int .u8, 1, zz⟩) {a : List Nat} {b g i x et : Nat} {frz : Bool} {m : PM} (hb : m.get b = some (.cells (cb a) g frz et)) (hx : a[i]? = some x) : mLoad t m (some (.ptr b g i)) = some (.int .u8 (x : Int), m) := by
  subst ht
  have hg : Nat.beq g g = true := Nat.beq_refl g
  simp only [mLoad, ldCells, hb, hg, cond_true, cut1_b hx]
  rfl
theorem st_b {t : Option TI} {zz : Option (List PV)} (ht : t = some ⟨.int .u8, 1, zz⟩) {a : List Nat} {b g i x et : Nat} {m : PM} (hb : m.get b = some (.cells (cb a) g false et)) (hi : i < a.length) : mStore t m (some (.ptr b g i)) (some (.int .u8 (x : Int))) = some (undefPV, m.upd b (.cells (cb (a.set i x)) g false et)) := by
  subst ht
  have hg : Nat.beq g g = true := Nat.beq_refl g
  have hp : putN (cb a) i [PV.int .u8 (x : Int)] = some (cb (a.set i x)) := by
    unfold putN
    have e : Nat.ble (Nat.add i [PV.int .u8 (x : Int)].length) (cb a).length = true := by rw [cb_length]; exact Nat.ble_eq_true_of_le hi
    rw [e]
    simp only [cond_true]
    congr 1
    show _ = cb (a.set i x)
    unfold cb
    rw [List.map_set, List.set_eq_take_append_cons_drop, if_pos (by rw [List.length_map]; exact hi)]
    rfl
  simp only [mStore, hb, hg, Bool.true_and]
  have e : (Nat.beq (PV.int .u8 (x : Int)).cells.length 1 && cellsOk (PV.int .u8 (x : Int)).cells) = true := rfl
  rw [e]
  simp only [cond_true, PV.cells, hp]
/-- a row of bytes that grows at its end -/
def AppB (c : List Nat) (m : PM) (v : PV) : Prop := (c = [] ∧ v = .nils) ∨ ∃ b g, v = .msl b g 0 c.length 1 ∧ m.get b = some (.cells (cb c) g false 5)
theorem appB_one {c : List Nat} {m : PM} {v : PV} (h : AppB c m v) (hl : c.length < 1000000) {x : Nat} {cp : Option Nat} : ∃ w m', mBuiltin E m .append (#[40, 40] : Array TypeId).toList (some [v, .vsl [.int .u8 (x : Int)] 1 cp]) = some (w, m') ∧ AppB (c ++ [x]) m' w := by
  have e3 : mBuiltin E m .append (#[40, 40] : Array TypeId).toList (some [v, .vsl [.int .u8 (x : Int)] 1 cp]) = mAppend2 m 5 1 1 v [.int .u8 (x : Int)] 1 := rfl
  rw [e3]
  rcases h with ⟨rfl, rfl⟩ | ⟨b, g, rfl, hb⟩
  · refine ⟨.msl m.next 0 0 1 1, m.new (.cells [.int .u8 (x : Int)] 0 false 5), rfl, .inr ⟨_, _, rfl, ?_⟩⟩
    rw [PM.get_new, if_pos rfl]; rfl
  · have e1 : Nat.beq g g = true := Nat.beq_refl g
    have e2 : Nat.ble (Nat.mul (Nat.add c.length 1) 1) roomB = true := Nat.ble_eq_true_of_le (by
      show (c.length + 1) * 1 ≤ 140737488355328
      omega)
    have e4 : cutN (cb c) 0 (Nat.mul c.length 1) = some (cb c) := by
      unfold cutN
      have e : Nat.ble (Nat.add 0 (Nat.mul c.length 1)) (cb c).length = true := Nat.ble_eq_true_of_le (by show 0 + c.length * 1 ≤ _; rw [cb_length]; omega)
      rw [e, show Nat.mul c.length 1 = c.length from Nat.mul_one _]
      simp only [cond_true, List.drop_zero]
      rw [List.take_of_length_le (by rw [cb_length]; omega)]
    refine ⟨.msl b (Nat.succ g) 0 (c.length + 1) 1, m.upd b (.cells (cb c ++ [.int .u8 (x : Int)]) (Nat.succ g) false 5), ?_, .inr ⟨b, Nat.succ g, ?_, ?_⟩⟩
    · show (match m.get b with
        | some (.cells old g' false et') => bif Nat.beq 5 et' && Nat.beq g g' && (Nat.beq 0 0 && (Nat.beq 1 1 && Nat.ble (Nat.mul (Nat.add c.length 1) 1) roomB)) then (match cutN old 0 (Nat.mul c.length 1) with
          | some l => some (PV.msl b (Nat.succ g) 0 (Nat.add c.length 1) 1, m.upd b (.cells (l ++ [PV.int .u8 (x : Int)]) (Nat.succ g) false 5))
          | none => none) else none
        | _ => none) = _
      rw [hb]
      simp only
      rw [e1, e2, e4]
      rfl
    · rw [List.length_append]; rfl
    · rw [PM.get_upd, if_pos rfl, cb_append]; rfl
theorem OkB.set {a : List Nat} (h : OkB a) {x i : Nat} (hx : x < 256) : OkB (a.set i x) := fun y hy => by
  rcases List.mem_or_eq_of_mem_set hy with h1 | rfl
  · exact h y h1
  · exact hx
theorem OkB.get {a : List Nat} (h : OkB a) {x i : Nat} (hx : a[i]? = some x) : x < 256 := h x (List.mem_of_getElem? hx)
theorem OkB.app {a b : List Nat} (h : OkB a) (h' : OkB b) : OkB (a ++ b) := fun y hy => by
  rcases List.mem_append.1 hy with h1 | h1
  · exact h y h1
  · exact h' y h1
theorem fin0 {fn : Func} {R : PV → PM → Prop} (hr : fn.results.toList = []) {x : Ex} (hx : ∀ i, x ≠ .exit i) {s : St} (hd : s.df = []) (hR : R (.tup []) s.me) : BodyQ E fn R x s := by
  refine ⟨hx, by rw [hd]; rfl, [], ?_, hR⟩
  rw [hr]
  rfl
theorem ex_nrm : ∀ i, Ex.nrm ≠ Ex.exit i := nofun

theorem bytes_Reverse {c : List Nat} {n b g et : Nat} {m : PM} (hb : m.get b = some (.cells (cb c) g false et)) (hn : n ≤ c.length) (h1 : 1 ≤ n) (hc : c.length < 2000000000) (ho : OkB c) :
    ∃ m' c', Ev E 237 [.msl b g 0 n 1] m (.tup []) m' ∧ m'.get b = some (.cells (cb c') g false et) ∧ c'.length = c.length ∧ OkB c' := by
  suffices hh : ∃ q m', Ev E 237 [.msl b g 0 n 1] m q m' ∧ (q = .tup [] ∧ ∃ c', m'.get b = some (.cells (cb c') g false et) ∧ c'.length = c.length ∧ OkB c') by
    obtain ⟨q, m', k1, rfl, c', k2⟩ := hh
    exact ⟨m', c', k1, k2⟩
  refine Ev_rawE rfl rfl rfl (fn := Go.Proofs.Tryz.f237) rfl rfl rfl ?_
  show WC E _ ⟨Tr.leaf.set 0 _, 28, _, _⟩ _
  repeat first | refine WC_seq ?_ | refine WC_block ?_ | refine WC_region ?_
  apply WO_mv (hn := rfl)
  exact lk
  apply WO_b1 (hn := rfl) (hb := rfl)
  exact lk
  · exact len_msl ty40
  (apply WO_bin (hn := rfl); exact lk; exact lk; exact bk; apply WO_as (hn := rfl); exact lk; apply WO_as (hn := rfl); exact lk)
  rw [show ((n : Int) - 1) = ((n - 1 : Nat) : Int) from by omega]
  refine WO_nil ?_; show WC E _ _ _; repeat first | refine WC_seq ?_ | refine WC_block ?_ | refine WC_region ?_
  refine WC_loop (fun j s => ∃ (tm : Tr PV) (me : PM) (i k : Nat) (c' : List Nat), s = ⟨tm, 28, me, []⟩ ∧ tm.get 0 = some (.msl b g 0 n 1) ∧ tm.get 2 = some (.int .i64 (i : Int)) ∧ tm.get 3 = some (.int .i64 (k : Int)) ∧ i + k = n - 1 ∧ j = k ∧ me.get b = some (.cells (cb c') g false et) ∧ c'.length = c.length ∧ OkB c') (n - 1)
    ⟨_, _, 0, n - 1, c, rfl, gk, gk, gk, by omega, by omega, hb, rfl, ho⟩ ?_
  rintro j s ⟨tm, me, i, k, c', rfl, g0, g2, g3, hik, hj, hb', hl, ho'⟩
  repeat first | refine WC_seq ?_ | refine WC_block ?_ | refine WC_region ?_
  (apply WO_mv (hn := rfl); exact lk; apply WO_mv (hn := rfl); exact lk; apply WO_bin (hn := rfl); exact lk; exact lk; exact bk)
  refine WO_nil ?_; show WC E _ _ _; repeat first | refine WC_seq ?_ | refine WC_block ?_ | refine WC_region ?_
  apply WC_cond; (focus (apply condOf_t; (focus (first | (apply evo_t; (repeat (first | exact get_hit | assumption | refine get_miss rfl ?_ | fail)); done) | (exact rfl) | fail))))
  · intro hlt
    have hlt : i < k := by have := of_decide_eq_true hlt; omega
    obtain ⟨x, hx⟩ : ∃ x, c'[k]? = some x := ⟨_, List.getElem?_eq_getElem (by omega)⟩
    obtain ⟨y, hy⟩ : ∃ y, c'[i]? = some y := ⟨_, List.getElem?_eq_getElem (by omega)⟩
    refine WC_skip ?_
    show WC E _ _ _; repeat first | refine WC_seq ?_ | refine WC_block ?_ | refine WC_region ?_
    (apply WC_draw; (focus exact rfl))
    (apply WD_mv (hn := rfl); exact lk; apply WD_mv (hn := rfl); exact lk; apply WD_mv (hn := rfl); exact lk; apply WD_mv (hn := rfl); exact lk; apply WD_mv (hn := rfl); exact lk; apply WD_mv (hn := rfl); exact lk)
    apply WD_ia (hn := rfl)
    exact lk
    exact lk
    · exact ia_msl ty40 (by omega)
    rw [Nat.zero_add]
    apply WD_ld (hn := rfl)
    exact lk
    · exact ty5
    · exact ld_b ty5.symm hb' hx
    (apply WD_mv (hn := rfl); exact lk; apply WD_mv (hn := rfl); exact lk)
    apply WD_ia (hn := rfl)
    exact lk
    exact lk
    · exact ia_msl ty40 (by omega)
    rw [Nat.zero_add]
    apply WD_ld (hn := rfl)
    exact lk
    · exact ty5
    · exact ld_b ty5.symm hb' hy
    apply WD_ia (hn := rfl)
    exact lk
    exact lk
    · exact ia_msl ty40 (by omega)
    rw [Nat.zero_add]
    apply WD_st
    exact lk
    exact lk
    · exact st_b ty5 hb' (by omega)
    have hb2 : (me.upd b (.cells (cb (c'.set i x)) g false et)).get b = some (.cells (cb (c'.set i x)) g false et) := by rw [PM.get_upd, if_pos rfl]
    apply WD_ia (hn := rfl)
    exact lk
    exact lk
    · exact ia_msl ty40 (by omega)
    rw [Nat.zero_add]
    apply WD_st
    exact lk
    exact lk
    · exact st_b ty5 hb2 (by rw [List.length_set]; omega)
    refine WD_nil ⟨rfl, ?_⟩
    show WC E _ _ _
    repeat first | refine WC_seq ?_ | refine WC_block ?_ | refine WC_region ?_
    (apply WO_mv (hn := rfl); exact lk; apply WO_bin (hn := rfl); exact lk; exact lk; exact bk; apply WO_mv (hn := rfl); exact lk; apply WO_bin (hn := rfl); exact lk; exact lk; exact bk; apply WO_as (hn := rfl); exact lk; apply WO_as (hn := rfl); exact lk)
    rw [show ((k : Int) - 1) = ((k - 1 : Nat) : Int) from by omega]
    refine WO_nil ?_
    refine ⟨j - 1, by omega, _, _, i + 1, k - 1, (c'.set i x).set k y, rfl, gk, gk, gk, by omega, by omega, by rw [PM.get_upd, if_pos rfl], by rw [List.length_set, List.length_set, hl], (ho'.set (ho'.get hx)).set (ho'.get hy)⟩
  · intro _
    refine WC_exit ?_
    exact fin0 rfl ex_nrm rfl ⟨rfl, c', hb', hl, ho'⟩
end Go.Ab.T
/- nat.Print: some text of bounded length. -/
open Go Go.Ab
namespace Go.Ab.T
set_option maxRecDepth 10000
set_option maxHeartbeats 64000
set_option linter.unusedSimpArgs false
attribute [local irreducible] Tr.get Tr.set

theorem b_quo32 {K : Option TI} {cst : Bool} {a b : Nat} (ha : a < 4294967296) (hb : b ≠ 0) : bin2 K cst .quo (.int .u32 (a : Int)) (.int .u32 (b : Int)) = some (.int .u32 ((a / b : Nat) : Int)) := by
  show (bif intEq (b : Int) 0 then none else some (PV.int .u32 (IntKind.u32.wrap ((a : Int).tdiv b)))) = _
  have e : intEq (b : Int) 0 = false := by rw [intEq_d]; exact decide_eq_false (by omega)
  rw [e]
  simp only [cond_false]
  rw [show (a : Int).tdiv (b : Int) = ((a / b : Nat) : Int) from rfl]
  have h1 : a / b < 4294967296 := Nat.lt_of_le_of_lt (Nat.div_le_self _ _) ha
  have h2 : IntKind.u32.wrap ((a / b : Nat) : Int) = ((a / b : Nat) : Int) := by
    show (((a / b : Nat) : Int)) % 4294967296 = _
    exact Int.emod_eq_of_lt (Int.natCast_nonneg _) (Int.ofNat_lt.2 h1)
  rw [h2]
theorem b_rem32 {K : Option TI} {cst : Bool} {a b : Nat} (hb : b ≠ 0) : bin2 K cst .rem (.int .u32 (a : Int)) (.int .u32 (b : Int)) = some (.int .u32 ((a % b : Nat) : Int)) := by
  show (bif intEq (b : Int) 0 then none else some (PV.int .u32 ((a : Int).tmod b))) = _
  have e : intEq (b : Int) 0 = false := by rw [intEq_d]; exact decide_eq_false (by omega)
  rw [e]
  rfl
theorem ix_dig {d : Nat} (h : d < 10) : pIx (E.ty 9) (some (.str [48, 49, 50, 51, 52, 53, 54, 55, 56, 57])) (some (.int .u32 (d : Int))) = some (.int .u8 ((48 + d : Nat) : Int)) := by
  match d, h with
  | 0, _ => rfl
  | 1, _ => rfl
  | 2, _ => rfl
  | 3, _ => rfl
  | 4, _ => rfl
  | 5, _ => rfl
  | 6, _ => rfl
  | 7, _ => rfl
  | 8, _ => rfl
  | 9, _ => rfl
theorem toBytes_cb : ∀ {a : List Nat}, OkB a → toBytes (cb a) = some (a.map UInt8.ofNat)
  | [], _ => rfl
  | x :: a, h => by
    have h1 : x < 256 := h x (by simp)
    have ih := toBytes_cb (a := a) fun y hy => h y (by simp [hy])
    have e : toByte (.int .u8 (x : Int)) = some (UInt8.ofNat x) := by
      have hb : Nat.blt x 256 = true := by simp [Nat.blt]; omega
      first | (simp only [toByte, hb, cond_true]; done) | (show (bif Nat.blt x 256 then some (UInt8.ofNat x) else none) = _; rw [hb]; rfl)
    show (match toByte (.int .u8 (x : Int)) with
      | some b => match toBytes (cb a) with
        | some r => some (b :: r)
        | none => none
      | none => none) = _
    rw [e, ih]
    rfl
theorem OkB.take {a : List Nat} (h : OkB a) (n : Nat) : OkB (a.take n) := fun y hy => h y (List.mem_of_mem_take hy)
theorem conv_b {c : List Nat} {n b g et : Nat} {frz : Bool} {m : PM} (hb : m.get b = some (.cells (cb c) g frz et)) (hn : n ≤ c.length) (ho : OkB c) : mConv (E.ty 40) (E.ty 9) m (some (.msl b g 0 n 1)) = some (.str ((c.take n).map UInt8.ofNat), m) := by
  have h1 : cutN (cb c) 0 n = some (cb (c.take n)) := by
    unfold cutN
    have e : Nat.ble (Nat.add 0 n) (cb c).length = true := Nat.ble_eq_true_of_le (by show 0 + n ≤ _; rw [cb_length]; omega)
    rw [e]
    simp only [cond_true, List.drop_zero, cb, List.map_take]
  have hg : Nat.beq g g = true := Nat.beq_refl g
  have e1 : isU8 (some [.int .u8 0]) = true := rfl
  have e2 : Nat.beq 1 1 = true := rfl
  rw [ty40, ty9]
  simp only [mConv, hb, e1, hg, e2, Bool.and_self, cond_true, h1, toBytes_cb (ho.take n)]
theorem WO_cvb {all os : List Oper} {ty : TypeId} {pos : String} {after : Array Edge} {tm : Tr PV} {nt : Nat} {me : PM} {df : List (Nat × List PV)} {d : Nat} {x : Operand} {b g o n z : Nat} {v : PV} {m' : PM} {Q : St → Prop} (hx : evo tm x = some (.msl b g o n z)) (hv : mConv (E.ty 40) (E.ty 9) me (some (.msl b g o n z)) = some (v, m')) (hn : Nat.blt d nt = true) (k : WO E all os ⟨tm.set d v, nt, m', df⟩ Q) : WO E all (⟨some d, .convert 40 9 x, ty, pos, after, none⟩ :: os) ⟨tm, nt, me, df⟩ Q := by
  refine WO_step (s1 := ⟨tm.set d v, nt, m', df⟩) ?_ k
  have hM : evM E (evo tm) me (.convert 40 9 x) = some (v, m') := by simp only [evM, hx, hv]
  have hp : evP E (evo tm) (.convert 40 9 x) = none := by simp only [evP, ty40, ty9, hx]; rfl
  simp only [stepP, guardOk, callOf, deferOf, evOp, isM, cond_false, hp, hM, put2, put, hn, cond_true]
theorem pow9 : BB ≤ 1000000000 ^ 2 := by decide
theorem nat_Print {a : List Nat} {p : PV} (h : Lim a p) (ho : Ok a) (hl : a.length ≤ 32) : ∃ s : List UInt8, s.length ≤ 577 ∧ ∀ m, Ev E 178 [p] m (.str s) m := by
  suffices hh : ∃ q, (∃ s : List UInt8, q = .str s ∧ s.length ≤ 577) ∧ ∀ m, Ev E 178 [p] m q m by
    obtain ⟨q, ⟨s, rfl, h1⟩, h2⟩ := hh
    exact ⟨s, h1, h2⟩
  obtain ⟨pT, hT, hT2⟩ := nat_Trim h ho (by omega)
  have hY : nv a < 1000000000 ^ 64 := by
    have h1 := nv_lt ho
    have h2 : BB ^ a.length ≤ BB ^ 32 := Nat.pow_le_pow_right BB_pos hl
    have h3 : BB ^ 32 ≤ (1000000000 ^ 2) ^ 32 := Nat.pow_le_pow_left pow9 32
    rw [← Nat.pow_mul] at h3
    exact Nat.lt_of_lt_of_le h1 (Nat.le_trans h2 h3)
  have hlY : (lm (nv a)).length ≤ 32 := Nat.le_trans (lm_le ho) hl
  refine Ev_isoE rfl rfl rfl (flats1 h.flat) (fn := Go.Proofs.Tryz.f178) rfl rfl rfl ?_
  show WC E _ ⟨Tr.leaf.set 0 p, 52, _, _⟩ _
  generalize PM.empty = me0
  repeat first | refine WC_seq ?_ | refine WC_block ?_ | refine WC_region ?_
  (apply WO_as (hn := rfl); exact lk)
  refine WO_nil ?_; show WC E _ _ _; repeat first | refine WC_seq ?_ | refine WC_block ?_ | refine WC_region ?_
  (apply WO_mv (hn := rfl); exact lk)
  apply WO_ca (hn := rfl) pT me0
  · exact evs1 lk
  · exact hT2 me0
  (apply WO_as (hn := rfl); exact lk)
  refine WO_nil ?_; show WC E _ _ _; repeat first | refine WC_seq ?_ | refine WC_block ?_ | refine WC_region ?_
  apply WO_mv (hn := rfl)
  exact lk
  apply WO_b1 (hn := rfl) (hb := rfl)
  exact lk
  · exact len_lim ty34 hT
  (apply WO_bin (hn := rfl); exact lk; exact lk; exact bk)
  refine WO_nil ?_; show WC E _ _ _; repeat first | refine WC_seq ?_ | refine WC_block ?_ | refine WC_region ?_
  apply WC_cond; (focus (apply condOf_t; (focus (first | (apply evo_t; (repeat (first | exact get_hit | assumption | refine get_miss rfl ?_ | fail)); done) | (exact rfl) | fail))))
  · intro _
    show WC E _ _ _; repeat first | refine WC_seq ?_ | refine WC_block ?_ | refine WC_region ?_
    (apply WO_as (hn := rfl); exact lk)
    refine WO_nil ?_; show WC E _ _ _; repeat first | refine WC_seq ?_ | refine WC_block ?_ | refine WC_region ?_
    refine WC_ret ?_
    exact fin1 rfl ex_ret rfl get_hit ⟨_, _, rfl, _, rfl, by decide⟩
  · intro h0
    have h0 : nv a ≠ 0 := by
      intro e
      rw [e, lm_zero] at h0
      exact absurd h0 (by decide)
    generalize nv a = Y at *
    refine WC_skip ?_
    show WC E _ _ _; repeat first | refine WC_seq ?_ | refine WC_block ?_ | refine WC_region ?_
    (apply WO_as (hn := rfl); exact lk)
    refine WO_nil ?_; show WC E _ _ _; repeat first | refine WC_seq ?_ | refine WC_block ?_ | refine WC_region ?_
    refine WC_loop (fun j s => ∃ (tm : Tr PV) (me : PM) (p' v : PV) (y : Nat) (c : List Nat), s = ⟨tm, 52, me, []⟩ ∧ tm.get 0 = some p' ∧ Lim (lm y) p' ∧ tm.get 3 = some v ∧ AppB c me v ∧ OkB c ∧ y < 1000000000 ^ j ∧ y ≤ Y ∧ c.length + 9 * j ≤ 576 ∧ (y = 0 → 1 ≤ c.length)) 64
      ⟨_, _, _, _, Y, [], rfl, gk, hT, gk, .inl ⟨rfl, rfl⟩, nofun, hY, Nat.le_refl _, by decide, fun e => absurd e h0⟩ ?_
    rintro j s ⟨tm, me, p', v, y, c, rfl, g0, hp', g3, hA, hB, hy, hyY, hc, hcy⟩
    have hly : (lm y).length ≤ 32 := Nat.le_trans (lm_mono hyY) hlY
    repeat first | refine WC_seq ?_ | refine WC_block ?_ | refine WC_region ?_
    apply WO_mv (hn := rfl)
    exact lk
    apply WO_b1 (hn := rfl) (hb := rfl)
    exact lk
    · exact len_lim ty34 hp'
    (apply WO_bin (hn := rfl); exact lk; exact lk; exact bk)
    refine WO_nil ?_; show WC E _ _ _; repeat first | refine WC_seq ?_ | refine WC_block ?_ | refine WC_region ?_
    apply WC_cond; (focus (apply condOf_t; (focus (first | (apply evo_t; (repeat (first | exact get_hit | assumption | refine get_miss rfl ?_ | fail)); done) | (exact rfl) | fail))))
    · intro hy0
      have hy0 : y ≠ 0 := by
        intro e
        rw [e, lm_zero] at hy0
        exact absurd hy0 (by decide)
      obtain ⟨j', rfl⟩ : ∃ j', j = j' + 1 := by
        cases j with
        | zero => rw [Nat.pow_zero] at hy; omega
        | succ j' => exact ⟨j', rfl⟩
      obtain ⟨r, hr, hr2⟩ := nat_small (y := 1000000000) hp' (ok_lm y) (by omega) (by decide) (by decide)
      rw [nv_lm] at hr hr2
      refine WC_skip ?_
      show WC E _ _ _; repeat first | refine WC_seq ?_ | refine WC_block ?_ | refine WC_region ?_
      (apply WO_mv (hn := rfl); exact lk)
      apply WO_ca (hn := rfl) (.tup [r, .int .u32 ((y % 1000000000 : Nat) : Int)]) me
      · apply evs2
        exact lk
        exact lk
      · exact hr2 me
      (apply WO_mv (hn := rfl); exact lk; apply WO_ex (hn := rfl); exact lk; exact rfl; apply WO_ex (hn := rfl); exact lk; exact rfl; apply WO_as (hn := rfl); exact lk; apply WO_as (hn := rfl); exact lk)
      refine WO_nil ?_; show WC E _ _ _; repeat first | refine WC_seq ?_ | refine WC_block ?_ | refine WC_region ?_
      (apply WO_mv (hn := rfl); exact lk)
      refine WO_nil ?_; show WC E _ _ _; repeat first | refine WC_seq ?_ | refine WC_block ?_ | refine WC_region ?_
      refine WC_loop (fun j s => ∃ (tm : Tr PV) (me : PM) (v : PV) (i z : Nat) (c' : List Nat), s = ⟨tm, 52, me, []⟩ ∧ tm.get 4 = some r ∧ tm.get 3 = some v ∧ AppB c' me v ∧ OkB c' ∧ tm.get 19 = some (.int .i64 (i : Int)) ∧ tm.get 5 = some (.int .u32 (z : Int)) ∧ z < 4294967296 ∧ i ≤ 9 ∧ j = 9 - i ∧ c'.length = c.length + i) 9
        ⟨_, _, _, 0, _, c, rfl, gk, gk, hA, hB, gk, gk, Nat.lt_trans (Nat.mod_lt _ (by decide)) (by decide), by decide, rfl, rfl⟩ ?_
      clear g0 g3 hA hB
      rintro j s ⟨tm, me, v, i, z, c', rfl, g4, g3, hA, hB, g19, g5, hz, hi, hj, hc'⟩
      repeat first | refine WC_seq ?_ | refine WC_block ?_ | refine WC_region ?_
      (apply WO_bin (hn := rfl); exact lk; exact lk; exact bk)
      refine WO_nil ?_; show WC E _ _ _; repeat first | refine WC_seq ?_ | refine WC_block ?_ | refine WC_region ?_
      apply WC_cond; (focus (apply condOf_t; (focus (first | (apply evo_t; (repeat (first | exact get_hit | assumption | refine get_miss rfl ?_ | fail)); done) | (exact rfl) | fail))))
      · intro hlt
        have hlt : i < 9 := by have := of_decide_eq_true hlt; omega
        refine WC_skip ?_
        show WC E _ _ _; repeat first | refine WC_seq ?_ | refine WC_block ?_ | refine WC_region ?_
        apply WO_mv (hn := rfl)
        exact lk
        apply WO_mv (hn := rfl)
        exact lk
        apply WO_bin (hn := rfl)
        exact lk
        · exact rfl
        · exact b_rem32 (b := 10) (by decide)
        apply WO_ix (hn := rfl)
        · exact rfl
        exact lk
        · exact ix_dig (Nat.mod_lt _ (by decide))
        apply WO_bs (hn := rfl)
        · apply evps1
          exact lk
        · exact rfl
        obtain ⟨w, m', k1, k2⟩ := appB_one hA (by omega) (x := 48 + z % 10) (cp := some 1)
        apply WO_m2 (hn := rfl) (hb := rfl)
        exact lk
        exact lk
        · exact k1
        (apply WO_as (hn := rfl); exact lk)
        refine WO_nil ?_; show WC E _ _ _; repeat first | refine WC_seq ?_ | refine WC_block ?_ | refine WC_region ?_
        apply WO_mv (hn := rfl)
        exact lk
        apply WO_bin (hn := rfl)
        exact lk
        · exact rfl
        · exact b_quo32 (b := 10) hz (by decide)
        (apply WO_as (hn := rfl); exact lk)
        refine WO_nil ?_; show WC E _ _ _; repeat first | refine WC_seq ?_ | refine WC_block ?_ | refine WC_region ?_
        (apply WO_bin (hn := rfl); exact lk; exact lk; exact bk; apply WO_mv (hn := rfl); exact lk)
        refine WO_nil ?_
        have hm10 : z % 10 < 10 := Nat.mod_lt _ (by decide)
        refine ⟨j - 1, by omega, _, _, w, i + 1, z / 10, c' ++ [48 + z % 10], rfl, gk, gk, k2, hB.app (fun y hy => by rw [List.mem_singleton] at hy; omega), gk, gk, by omega, by omega, by omega, by rw [List.length_append, hc']; rfl⟩
      · intro hlt
        have hlt : i = 9 := by have := of_decide_eq_false hlt; omega
        refine WC_exit ?_
        show WC E _ _ _; repeat first | refine WC_seq ?_ | refine WC_block ?_ | refine WC_region ?_
        (apply WO_mv (hn := rfl); exact lk; apply WO_as (hn := rfl); exact lk)
        refine WO_nil ?_
        refine ⟨j', by omega, _, _, r, v, y / 1000000000, c', rfl, gk, hr, gk, hA, hB, ?_, by omega, by omega, fun _ => by omega⟩
        rw [Nat.pow_succ] at hy
        exact Nat.div_lt_of_lt_mul (by rw [Nat.mul_comm]; exact hy)
    · intro hy0
      have hy0 : y = 0 := by
        have := of_decide_eq_false hy0
        have h1 : (lm y).length = 0 := by omega
        exact lm_nil.1 (List.length_eq_zero_iff.1 h1)
      have hc1 := hcy hy0
      refine WC_exit ?_
      show WC E _ _ _
      obtain ⟨b, g, rfl, hb⟩ : ∃ b g, v = .msl b g 0 c.length 1 ∧ me.get b = some (.cells (cb c) g false 5) := by
        rcases hA with ⟨rfl, _⟩ | hA
        · simp at hc1
        · exact hA
      repeat first | refine WC_seq ?_ | refine WC_block ?_ | refine WC_region ?_
      refine WC_loop (fun j s => ∃ (tm : Tr PV) (n : Nat), s = ⟨tm, 52, me, []⟩ ∧ tm.get 3 = some (.msl b g 0 n 1) ∧ 1 ≤ n ∧ n ≤ c.length ∧ j = n) c.length
        ⟨_, _, rfl, gk, hc1, Nat.le_refl _, rfl⟩ ?_
      clear g0 g3
      rintro j s ⟨tm, n, rfl, g3, hn1, hn, hj⟩
      obtain ⟨x, hx⟩ : ∃ x, c[n - 1]? = some x := ⟨_, List.getElem?_eq_getElem (by omega)⟩
      repeat first | refine WC_seq ?_ | refine WC_block ?_ | refine WC_region ?_
      apply WO_mv (hn := rfl)
      exact lk
      apply WO_b1 (hn := rfl) (hb := rfl)
      exact lk
      · exact len_msl ty40
      apply WO_bin (hn := rfl)
      exact lk
      · exact rfl
      · exact b_gtr
      by_cases h1n : 1 < n
      · rw [decide_eq_true (show (1 : Int) < (n : Int) by omega)]
        (apply WO_mv (hn := rfl); exact lk; apply WO_gt; exact uk; apply WO_mv (hn := rfl); exact lk; apply WO_gt; exact uk; apply WO_mv (hn := rfl); exact lk; apply WO_gt; exact uk; apply WO_b1 (hn := rfl) (hb := rfl); exact lk; exact nk; apply WO_gt; exact uk; apply WO_bin (hn := rfl); exact lk; exact lk; exact bk; apply WO_gt; exact uk)
        rw [show ((n : Int) - 1) = ((n - 1 : Nat) : Int) from by omega]
        apply WO_ia (hn := rfl)
        exact lk
        exact lk
        · exact ia_msl ty40 (by omega)
        rw [Nat.zero_add]
        apply WO_gt
        · exact gOk rfl rfl gk rfl
        apply WO_ld (hn := rfl)
        exact lk
        · exact ld_b ty5 hb hx
        (apply WO_gt; exact uk; apply WO_bin (hn := rfl); exact lk; exact lk; exact bk)
        apply WO_pkt (hn := rfl)
        exact lk
        · exact rfl
        exact lk
        refine WO_nil ?_; show WC E _ _ _; repeat first | refine WC_seq ?_ | refine WC_block ?_ | refine WC_region ?_
        apply WC_cond; (focus (apply condOf_t; (focus (first | (apply evo_t; (repeat (first | exact get_hit | assumption | refine get_miss rfl ?_ | fail)); done) | (exact rfl) | fail))))
        · intro _
          refine WC_skip ?_
          show WC E _ _ _; repeat first | refine WC_seq ?_ | refine WC_block ?_ | refine WC_region ?_
          (apply WO_mv (hn := rfl); exact lk; apply WO_mv (hn := rfl); exact lk; apply WO_b1 (hn := rfl) (hb := rfl); exact lk; exact nk; apply WO_bin (hn := rfl); exact lk; exact lk; exact bk)
          rw [show ((n : Int) - 1) = ((n - 1 : Nat) : Int) from by omega]
          apply WO_sl (hn := rfl)
          exact lk
          · exact rfl
          · exact evopt_s lk
          · exact rfl
          · exact sl_msl_hi ty40 (by omega)
          (apply WO_as (hn := rfl); exact lk)
          refine WO_nil ?_
          exact ⟨n - 1, by omega, _, n - 1, rfl, gk, by omega, by omega, rfl⟩
        · intro _
          refine WC_exit ?_
          show WC E _ _ _
          repeat first | refine WC_seq ?_ | refine WC_block ?_ | refine WC_region ?_
          (apply WO_mv (hn := rfl); exact lk)
          obtain ⟨m', c', r1, r2, r3, r4⟩ := bytes_Reverse hb hn hn1 (by omega) hB
          apply WO_ca (hn := rfl) (.tup []) m'
          · exact evs1 lk
          · exact r1
          refine WO_nil ?_; show WC E _ _ _; repeat first | refine WC_seq ?_ | refine WC_block ?_ | refine WC_region ?_
          (apply WO_mv (hn := rfl); exact lk)
          apply WO_cvb (hn := rfl)
          exact lk
          · exact conv_b r2 (by omega) r4
          (apply WO_as (hn := rfl); exact lk)
          refine WO_nil ?_
          show WC E _ _ _
          refine WC_ret ?_
          exact fin1 rfl ex_ret rfl get_hit ⟨_, _, rfl, _, rfl, by rw [List.length_map, List.length_take]; omega⟩
      · rw [decide_eq_false (show ¬ (1 : Int) < (n : Int) by omega)]
        (apply WO_mv (hn := rfl); exact lk; apply WO_gf; exact uk; exact rfl; apply WO_gf; exact uk; exact rfl; apply WO_gf; exact uk; exact rfl; apply WO_gf; exact uk; exact rfl; apply WO_gf; exact uk; exact rfl; apply WO_gf; exact uk; exact rfl; apply WO_gf; exact uk; exact rfl)
        apply WO_pkf (hn := rfl)
        exact lk
        · exact rfl
        · exact rfl
        refine WO_nil ?_; show WC E _ _ _; repeat first | refine WC_seq ?_ | refine WC_block ?_ | refine WC_region ?_
        apply WC_cond; (focus (apply condOf_t; (focus (first | (apply evo_t; (repeat (first | exact get_hit | assumption | refine get_miss rfl ?_ | fail)); done) | (exact rfl) | fail))))
        · intro hf
          cases hf
        · intro _
          refine WC_exit ?_
          show WC E _ _ _
          repeat first | refine WC_seq ?_ | refine WC_block ?_ | refine WC_region ?_
          (apply WO_mv (hn := rfl); exact lk)
          obtain ⟨m', c', r1, r2, r3, r4⟩ := bytes_Reverse hb hn hn1 (by omega) hB
          apply WO_ca (hn := rfl) (.tup []) m'
          · exact evs1 lk
          · exact r1
          refine WO_nil ?_; show WC E _ _ _; repeat first | refine WC_seq ?_ | refine WC_block ?_ | refine WC_region ?_
          (apply WO_mv (hn := rfl); exact lk)
          apply WO_cvb (hn := rfl)
          exact lk
          · exact conv_b r2 (by omega) r4
          (apply WO_as (hn := rfl); exact lk)
          refine WO_nil ?_
          show WC E _ _ _
          refine WC_ret ?_
          exact fin1 rfl ex_ret rfl get_hit ⟨_, _, rfl, _, rfl, by rw [List.length_map, List.length_take]; omega⟩
end Go.Ab.T
/- dec.Print: some text of bounded length. -/
open Go Go.Ab
namespace Go.Ab.T
set_option maxRecDepth 10000
set_option maxHeartbeats 2000000
set_option linter.unusedSimpArgs false

theorem sign_run {s : Bool} {a b : List Nat} {pa pb : PV} (h1 : Lim a pa) (h2 : Lim b pb) (N n : Nat) (m : PM) : evCall E N (n + 1) 177 [.agg [.bool s, pa, pb]] m = some (.str (if s then [45] else []), m) := by
  rcases h1 with ⟨_, rfl⟩ | ⟨cp, rfl⟩ <;> rcases h2 with ⟨_, rfl⟩ | ⟨cp', rfl⟩ <;> cases s
  · kernel_rfl
  · kernel_rfl
  · kernel_rfl
  · kernel_rfl
  · kernel_rfl
  · kernel_rfl
  · kernel_rfl
  · kernel_rfl
attribute [local irreducible] Tr.get Tr.set
theorem dec_sign {s : Bool} {a b : List Nat} {pa pb : PV} (h1 : Lim a pa) (h2 : Lim b pb) (m : PM) : Ev E 177 [.agg [.bool s, pa, pb]] m (.str (if s then [45] else [])) m := by
  refine ⟨1, fun N n _ hn => ?_⟩
  obtain ⟨n', rfl⟩ : ∃ n', n = n' + 1 := ⟨n - 1, by omega⟩
  exact sign_run h1 h2 N n' m
theorem b_addS {K : Option TI} {cst : Bool} {a b : List UInt8} (h : a.length + b.length ≤ 100000) : bin2 K cst .add (.str a) (.str b) = some (.str (a ++ b)) := by
  show (bif Nat.ble (Nat.add a.length b.length) maxStr then some (PV.str (a ++ b)) else none) = _
  have e : Nat.ble (Nat.add a.length b.length) maxStr = true := Nat.ble_eq_true_of_le (Nat.le_trans h (by decide))
  rw [e]; rfl

theorem dec_Print {r : Rat} {v : PV} (h : RatW r v) (hb : Bd 32 r) : ∃ s : List UInt8, s.length ≤ 2000 ∧ ∀ m, Ev E 111 [v] m (.str s) m := by
  suffices hh : ∃ q, (∃ s : List UInt8, q = .str s ∧ s.length ≤ 2000) ∧ ∀ m, Ev E 111 [v] m q m by
    obtain ⟨q, ⟨s, rfl, h1⟩, h2⟩ := hh
    exact ⟨s, h1, h2⟩
  obtain ⟨w, hw, hw2⟩ := rat_Norm h
  obtain ⟨s, pa, pb, a, b, rfl, h1, h2, h3, h4, h5, h6, h7⟩ := h
  obtain ⟨pn, pd, rfl, k1, _, k2⟩ := hw
  obtain ⟨sn, n1, n2⟩ := nat_Print k1 (ok_lm _) hb.1
  obtain ⟨sd, d1, d2⟩ := nat_Print k2 (ok_lm _) hb.2
  obtain ⟨p1, o1, o2⟩ := nat_Of (n := 1) (by decide)
  have hsg := fun m => dec_sign (s := decide (r.num < 0)) k1 k2 m
  have hbn := hb.1
  have hbd := hb.2
  have hcmp := fun m => nat_Cmp k2 o1 (ok_lm _) (ok_lm _) (by omega) (by rw [lm_one]; decide) m
  have hls : (if decide (r.num < 0) = true then [45] else [] : List UInt8).length ≤ 1 := by split <;> decide
  generalize (if decide (r.num < 0) = true then [45] else [] : List UInt8) = sg at *
  refine Ev_isoR rfl rfl rfl (re_agg (flats3 rfl (Lim.flat h1) (Lim.flat h2))) (fn := Go.Proofs.Tryz.f111) rfl rfl rfl ?_
  show WC E _ ⟨Tr.leaf.set 0 _, 24, _, _⟩ _
  repeat first | refine WC_seq ?_ | refine WC_block ?_ | refine WC_region ?_
  apply WO_bx (hn := rfl)
  exact lk
  · exact bx3 rfl (Lim.cell h1) (Lim.cell h2)
  rw [show PM.empty.next = 0 from rfl]
  have b0 : (PM.empty.new (.cells [.bool s, pa, pb] 0 false 36)).get 0 = some (.cells [.bool s, pa, pb] 0 false 36) := by
    rw [PM.get_new]; exact if_pos rfl
  generalize (PM.empty.new (.cells [.bool s, pa, pb] 0 false 36)) = me at *
  (apply WO_as (hn := rfl); exact lk)
  refine WO_nil ?_; show WC E _ _ _; repeat first | refine WC_seq ?_ | refine WC_block ?_ | refine WC_region ?_
  apply WO_ld (hn := rfl)
  exact lk
  · exact ld3 rfl b0
  apply WO_ca (hn := rfl) (.agg [.bool (decide (r.num < 0)), pn, pd]) me
  · exact evs1 lk
  · exact hw2 me
  apply WO_st
  exact lk
  exact lk
  · exact st3 b0 rfl (Lim.cell k1) (Lim.cell k2)
  have b1 : (me.upd 0 (.cells [.bool (decide (r.num < 0)), pn, pd] 0 false 36)).get 0 = some (.cells [.bool (decide (r.num < 0)), pn, pd] 0 false 36) := by rw [PM.get_upd, if_pos rfl]
  generalize me.upd 0 (.cells [.bool (decide (r.num < 0)), pn, pd] 0 false 36) = m1 at *
  refine WO_nil ?_; show WC E _ _ _; repeat first | refine WC_seq ?_ | refine WC_block ?_ | refine WC_region ?_
  (apply WC_draw; (focus exact rfl))
  apply WD_ld (hn := rfl)
  exact lk
  · exact ty36
  · exact ld3 ty36.symm b1
  apply WD_ca (hn := rfl) (.str sg) m1
  · exact evs1 lk
  · exact hsg m1
  · exact rfl
  apply WD_fa (hn := rfl)
  exact lk
  · exact rfl
  apply WD_ld (hn := rfl)
  exact lk
  · exact ty34'
  · exact ld3_1 rfl rfl rfl b1
  apply WD_pu (hn := rfl)
  · exact evs1 lk
  · exact n2 m1
  · exact pure_of rfl rfl (flats1 (Lim.flat k1))
  apply WD_bin (hn := rfl)
  exact lk
  exact lk
  · exact b_addS (by omega)
  (apply WD_as (hn := rfl); exact lk)
  refine WD_nil ⟨?_, ?_⟩
  · have s1 : sameRead m1 m1 (.ptr 0 0 1) 1 = true := by
      have e : ldCells m1 (some (.ptr 0 0 1)) 1 = some [pn] := by simp only [ldCells, b1]; rfl
      simp only [sameRead, e, eqPVs, eqPV_lim k1, Bool.and_self]
    simp only [trOk, okAll, okOne, okPair, s1, Bool.or_true, Bool.true_and, Bool.and_true]
    rfl
  show WC E _ _ _; repeat first | refine WC_seq ?_ | refine WC_block ?_ | refine WC_region ?_
  (apply WC_draw; (focus exact rfl))
  apply WD_fa (hn := rfl)
  exact lk
  · exact rfl
  apply WD_ld (hn := rfl)
  exact lk
  · exact ty34'
  · exact ld3_2 rfl rfl rfl b1
  apply WD_pu (hn := rfl)
  · apply evs1
    exact rfl
  · exact o2 m1
  · exact pure_of rfl rfl (flats1 rfl)
  apply WD_pu (hn := rfl)
  · apply evs2
    exact lk
    exact lk
  · exact hcmp m1
  · exact pure_of rfl rfl (flats2 (Lim.flat k2) (Lim.flat o1))
  (apply WD_bin (hn := rfl); exact lk; exact lk; exact bk)
  refine WD_nil ⟨rfl, ?_⟩
  show WC E _ _ _
  repeat first | refine WC_seq ?_ | refine WC_block ?_ | refine WC_region ?_
  apply WC_cond; (focus (apply condOf_t; (focus (first | (apply evo_t; (repeat (first | exact get_hit | assumption | refine get_miss rfl ?_ | fail)); done) | (exact rfl) | fail))))
  · intro _
    show WC E _ _ _; repeat first | refine WC_seq ?_ | refine WC_block ?_ | refine WC_region ?_
    (apply WO_mv (hn := rfl); exact lk)
    apply WO_fa (hn := rfl)
    exact lk
    · exact rfl
    apply WO_ld (hn := rfl)
    exact lk
    · exact ld3_2 rfl rfl rfl b1
    apply WO_ca (hn := rfl) (.str sd) m1
    · exact evs1 lk
    · exact d2 m1
    apply WO_bin (hn := rfl)
    · exact rfl
    exact lk
    · exact b_addS (by show 1 + sd.length ≤ _; omega)
    apply WO_bin (hn := rfl)
    exact lk
    exact lk
    · exact b_addS (by rw [List.length_append, List.length_append]; show (sg.length + sn.length) + (1 + sd.length) ≤ _; omega)
    (apply WO_as (hn := rfl); exact lk)
    refine WO_nil ?_; show WC E _ _ _; repeat first | refine WC_seq ?_ | refine WC_block ?_ | refine WC_region ?_
    (apply WO_mv (hn := rfl); exact lk; apply WO_as (hn := rfl); exact lk)
    refine WO_nil ?_
    show WC E _ _ _
    refine WC_ret ?_
    exact fin1 rfl ex_ret rfl get_hit ⟨_, _, rfl, _, rfl, by rw [List.length_append, List.length_append, List.length_append]; show (sg.length + sn.length) + (1 + sd.length) ≤ _; omega⟩
  · intro _
    refine WC_skip ?_
    show WC E _ _ _; repeat first | refine WC_seq ?_ | refine WC_block ?_ | refine WC_region ?_
    (apply WO_mv (hn := rfl); exact lk; apply WO_as (hn := rfl); exact lk)
    refine WO_nil ?_
    show WC E _ _ _
    refine WC_ret ?_
    exact fin1 rfl ex_ret rfl get_hit ⟨_, _, rfl, _, rfl, by rw [List.length_append]; omega⟩
end Go.Ab.T
