/- The reference rationals answer right. -/
import Derived.Test.YtkidolggnmomcaaGreatDoorBd
set_option linter.unusedVariables false
set_option linter.unusedSimpArgs false
/- The document's answer: ref1.Gcd. -/
open Go Go.Ab
namespace Go.Ab.T
set_option maxRecDepth 10000
set_option maxHeartbeats 2000000
set_option linter.unusedSimpArgs false
attribute [local irreducible] Tr.get Tr.set

theorem r1_Gcd {a b : List Nat} {p q : PV} (h : Lim a p) (h' : Lim b q) (ho : Ok a) (ho' : Ok b) (hl : a.length < 300000) (hl' : b.length < 300000) : ∃ r, Lim (lm (Nat.gcd (nv a) (nv b))) r ∧ ∀ m, Ev E 29 [p, q] m r m := by
  obtain ⟨pA, hA, hp2⟩ := r1_Trim h ho (by omega)
  obtain ⟨pB, hB, hq2⟩ := r1_Trim h' ho' (by omega)
  have hla : (lm (nv a)).length < 300000 := Nat.lt_of_le_of_lt (lm_le ho) hl
  have hlb : (lm (nv b)).length < 300000 := Nat.lt_of_le_of_lt (lm_le ho') hl'
  generalize hx : nv a = x at *
  generalize hy : nv b = y at *
  refine Ev_isoE rfl rfl rfl (flats2 h.flat h'.flat) (fn := Go.Proofs.Tryz.f29) rfl rfl rfl ?_
  show WC E _ ⟨(Tr.leaf.set 0 p).set 1 q, 27, _, _⟩ _
  repeat first | refine WC_seq ?_ | refine WC_block ?_ | refine WC_region ?_
  (apply WO_as (hn := rfl); exact lk)
  refine WO_nil ?_; show WC E _ _ _; repeat first | refine WC_seq ?_ | refine WC_block ?_ | refine WC_region ?_
  (apply WO_mv (hn := rfl); exact lk)
  apply WO_ca (hn := rfl) pA PM.empty
  · exact evs1 lk
  · exact hp2 _
  (apply WO_mv (hn := rfl); exact lk)
  apply WO_ca (hn := rfl) pB PM.empty
  · exact evs1 lk
  · exact hq2 _
  (apply WO_as (hn := rfl); exact lk; apply WO_as (hn := rfl); exact lk)
  refine WO_nil ?_; show WC E _ _ _; repeat first | refine WC_seq ?_ | refine WC_block ?_ | refine WC_region ?_
  refine WC_loop (fun j s => ∃ (tm : Tr PV) (u : Nat) (pu pv : PV), s = ⟨tm, 27, .empty, []⟩ ∧ tm.get 5 = some pu ∧ tm.get 6 = some pv ∧ Lim (lm u) pu ∧ Lim (lm j) pv ∧ (lm u).length < 300000 ∧ (lm j).length < 300000 ∧ Nat.gcd u j = Nat.gcd x y) y
    ⟨_, x, pA, pB, rfl, gk, gk, hA, hB, hla, hlb, rfl⟩ ?_
  clear hA hB hp2 hq2 hla hlb
  rintro v s ⟨tm, u, pu, pv, rfl, g0, g1, hU, hV, hlu, hlv, hg⟩
  repeat first | refine WC_seq ?_ | refine WC_block ?_ | refine WC_region ?_
  (apply WO_mv (hn := rfl); exact lk; apply WO_b1 (hn := rfl) (hb := rfl); exact lk; exact nk; apply WO_bin (hn := rfl); exact lk; exact lk; exact bk)
  refine WO_nil ?_; show WC E _ _ _; repeat first | refine WC_seq ?_ | refine WC_block ?_ | refine WC_region ?_
  apply WC_cond; (focus (apply condOf_t; (focus (first | (apply evo_t; (repeat (first | exact get_hit | assumption | refine get_miss rfl ?_ | fail)); done) | (exact rfl) | fail))))
  · intro hc
    have hc : 0 < (lm v).length := by simp only [decide_eq_true_eq] at hc; omega
    have hv0 : v ≠ 0 := fun e => by subst e; rw [lm_zero] at hc; simp at hc
    obtain ⟨r1, r2, s1, s2, s3⟩ := r1_DivMod hU hV (ok_lm u) (ok_lm v) hlu hlv (by rw [nv_lm]; exact hv0)
    rw [nv_lm, nv_lm] at s2
    have hmod : u % v < v := Nat.mod_lt _ (by omega)
    refine WC_skip ?_
    show WC E _ _ _; repeat first | refine WC_seq ?_ | refine WC_block ?_ | refine WC_region ?_
    (apply WO_mv (hn := rfl); exact lk; apply WO_mv (hn := rfl); exact lk)
    apply WO_ca (hn := rfl) (.tup [r1, r2, .bool true]) PM.empty
    · apply evs2
      exact lk
      exact lk
    · exact s3 _
    (apply WO_mv (hn := rfl); exact lk; apply WO_ex (hn := rfl); exact lk; exact rfl; apply WO_ex (hn := rfl); exact lk; exact rfl; apply WO_ex (hn := rfl); exact lk; exact rfl; apply WO_as (hn := rfl); exact lk; apply WO_as (hn := rfl); exact lk; apply WO_as (hn := rfl); exact lk)
    refine WO_nil ?_; show WC E _ _ _; repeat first | refine WC_seq ?_ | refine WC_block ?_ | refine WC_region ?_
    (apply WO_mv (hn := rfl); exact lk; apply WO_mv (hn := rfl); exact lk; apply WO_as (hn := rfl); exact lk; apply WO_as (hn := rfl); exact lk)
    refine WO_nil ?_
    refine ⟨u % v, hmod, _, v, pv, r2, rfl, gk, gk, hV, s2, hlv, Nat.lt_of_le_of_lt (lm_mono (Nat.le_of_lt hmod)) hlv, ?_⟩
    rw [← hg, Nat.gcd_comm u v, Nat.gcd_rec v u, Nat.gcd_comm]
  · intro hc
    have hc : (lm v).length = 0 := by simp only [decide_eq_false_iff_not] at hc; omega
    have hv0 : v = 0 := lm_nil.1 (List.length_eq_zero_iff.1 hc)
    subst hv0
    rw [Nat.gcd_zero_right] at hg
    subst hg
    refine WC_exit ?_
    show WC E _ _ _; repeat first | refine WC_seq ?_ | refine WC_block ?_ | refine WC_region ?_
    (apply WO_mv (hn := rfl); exact lk; apply WO_as (hn := rfl); exact lk)
    refine WO_nil ?_
    show WC E _ _ _
    refine WC_ret ?_
    show BodyQ _ _ _ _ _
    refine fin1 rfl ex_ret rfl get_hit ?_
    obtain ⟨q3, m3, h3, h4⟩ := Lim.rd hU PM.empty 11
    exact ⟨q3, m3, h3, h4⟩
end Go.Ab.T
/- The document's answer: ref2.Norm. -/
open Go Go.Ab
namespace Go.Ab.T
set_option maxRecDepth 10000
set_option maxHeartbeats 2000000
set_option linter.unusedSimpArgs false
attribute [local irreducible] Tr.get Tr.set

theorem r2_Norm {r : Rat} {v : PV} (h : RatW r v) : ∃ w, RatP r w ∧ ∀ m, Ev E 15 [v] m w m := by
  obtain ⟨s, pa, pb, a, b, rfl, h1, h2, h3, h4, h5, h6, h7⟩ := h
  obtain ⟨pA, hA, hp2⟩ := r1_Trim h1 h3 (by omega)
  obtain ⟨pB, hB, hq2⟩ := r1_Trim h2 h4 (by omega)
  have hla : (lm (nv a)).length < 300000 := Nat.lt_of_le_of_lt (lm_le h3) h5
  have hlb : (lm (nv b)).length < 300000 := Nat.lt_of_le_of_lt (lm_le h4) h6
  generalize hx : nv a = x at *
  generalize hy : nv b = y at *
  subst h7
  refine Ev_isoR rfl rfl rfl (re_agg (flats3 rfl (Lim.flat h1) (Lim.flat h2))) (fn := Go.Proofs.Tryz.f15) rfl rfl rfl ?_
  show WC E _ ⟨Tr.leaf.set 0 _, 44, _, _⟩ _
  repeat first | refine WC_seq ?_ | refine WC_block ?_ | refine WC_region ?_
  apply WO_bx (hn := rfl)
  exact lk
  · exact bx3 rfl (Lim.cell h1) (Lim.cell h2)
  apply WO_al (hn := rfl)
  · exact rfl
  rw [show PM.empty.next = 0 from rfl, show (PM.empty.new (.cells [.bool s, pa, pb] 0 false 36)).next = 1 from rfl]
  have b0 : ((PM.empty.new (.cells [.bool s, pa, pb] 0 false 36)).new (.cells [.bool false, .nils, .nils] 0 false 36)).get 0 = some (.cells [.bool s, pa, pb] 0 false 36) := two_get0
  have b1 : ((PM.empty.new (.cells [.bool s, pa, pb] 0 false 36)).new (.cells [.bool false, .nils, .nils] 0 false 36)).get 1 = some (.cells [.bool false, .nils, .nils] 0 false 36) := two_get1
  generalize ((PM.empty.new (.cells [.bool s, pa, pb] 0 false 36)).new (.cells [.bool false, .nils, .nils] 0 false 36)) = me at *
  refine WO_nil ?_
  show WC E _ _ _
  repeat first | refine WC_seq ?_ | refine WC_block ?_ | refine WC_region ?_
  (apply WC_draw; (focus exact rfl))
  apply WD_fa (hn := rfl)
  exact lk
  · exact rfl
  apply WD_ld (hn := rfl)
  exact lk
  · exact ty34'
  · exact ld3_1 rfl rfl rfl b0
  apply WD_pu (hn := rfl)
  · exact evs1 lk
  · exact hp2 me
  · exact pure_of rfl rfl (flats1 (Lim.flat h1))
  apply WD_fa (hn := rfl)
  exact lk
  · exact rfl
  apply WD_ld (hn := rfl)
  exact lk
  · exact ty34'
  · exact ld3_2 rfl rfl rfl b0
  apply WD_pu (hn := rfl)
  · exact evs1 lk
  · exact hq2 me
  · exact pure_of rfl rfl (flats1 (Lim.flat h2))
  (apply WD_as (hn := rfl); exact lk; apply WD_as (hn := rfl); exact lk)
  refine WD_nil ⟨rfl, ?_⟩
  show WC E _ _ _
  repeat first | refine WC_seq ?_ | refine WC_block ?_ | refine WC_region ?_
  refine WO.mono (Q := fun s' => ∃ tm, s' = ⟨tm, 44, me, []⟩ ∧ tm.get 1 = some (.ptr 0 0 0) ∧ tm.get 2 = some (.ptr 1 0 0) ∧ tm.get 3 = some pA ∧ tm.get 4 = some pB ∧ tm.get 19 = some (.bool (decide (x = 0 ∨ y = 0)))) ?_ ?_
  · by_cases hy0 : y = 0
    · have hz : (lm y).length = 0 := by rw [hy0, lm_zero]; rfl
      (apply WO_mv (hn := rfl); exact lk; apply WO_b1 (hn := rfl) (hb := rfl); exact lk; exact nk; apply WO_bin (hn := rfl); exact lk; exact lk; exact bk; apply WO_mv (hn := rfl); exact lk; apply WO_gf; exact uk; exact rfl; apply WO_gf; exact uk; exact rfl; apply WO_gf; exact uk; exact rfl)
      apply WO_pkt (hn := rfl)
      exact lk
      · simp only [decide_eq_true_eq]; omega
      exact lk
      exact WO_nil ⟨_, rfl, gk, gk, gk, gk, by rw [decide_eq_true (Or.inr hy0)]; exact get_hit⟩
    · have hz : (lm y).length ≠ 0 := fun e => hy0 (lm_nil.1 (List.length_eq_zero_iff.1 e))
      (apply WO_mv (hn := rfl); exact lk; apply WO_b1 (hn := rfl) (hb := rfl); exact lk; exact nk; apply WO_bin (hn := rfl); exact lk; exact lk; exact bk; apply WO_mv (hn := rfl); exact lk; apply WO_gt; exact uk; apply WO_mv (hn := rfl); exact lk; apply WO_gt; exact uk; apply WO_b1 (hn := rfl) (hb := rfl); exact lk; exact nk; apply WO_gt; exact uk; apply WO_bin (hn := rfl); exact lk; exact lk; exact bk)
      apply WO_pkf (hn := rfl)
      exact lk
      · simp only [decide_eq_false_iff_not]; omega
      exact lk
      refine WO_nil ⟨_, rfl, gk, gk, gk, gk, ?_⟩
      rw [get_hit]
      congr 2
      refine decide_eq_decide.2 ⟨fun hh => .inl (lm_nil.1 (List.length_eq_zero_iff.1 (by omega))), fun hh => ?_⟩
      rcases hh with hh | hh
      · rw [hh, lm_zero]; rfl
      · exact absurd hh hy0
  rintro _ ⟨tm, rfl, g1, g2, g3, g4, g19⟩
  show WC E _ _ _
  repeat first | refine WC_seq ?_ | refine WC_block ?_ | refine WC_region ?_
  apply WC_cond; (focus (apply condOf_t; (focus (first | (apply evo_t; (repeat (first | exact get_hit | assumption | refine get_miss rfl ?_ | fail)); done) | (exact rfl) | fail))))
  · intro hc
    have hc : x = 0 ∨ y = 0 := of_decide_eq_true hc
    have k1 : Lim (lm 1) (.vsl [.int .u32 1] 1 (some 1)) := by rw [lm_one]; exact .inr ⟨some 1, rfl⟩
    repeat first | refine WC_seq ?_ | refine WC_block ?_ | refine WC_region ?_
    apply WO_bs (hn := rfl)
    · exact evps1 rfl
    · exact rfl
    apply WO_bd (hn := rfl)
    · exact evps1 lk
    · exact (show _ = some (PV.agg [.bool false, .nils, .vsl [.int .u32 1] 1 (some 1)]) from rfl)
    apply WO_st
    exact lk
    exact lk
    · exact st3 b1 rfl rfl rfl
    refine WO_nil ?_
    show WC E _ _ _
    refine WC_ret ?_
    show BodyQ _ _ _ _ _
    refine fin3c rfl ex_ret rfl gk (by rw [PM.get_upd, if_pos rfl]) ?_
    refine ⟨_, _, reify_a3 rfl rfl rfl, ?_⟩
    rw [rq_zero hc]
    exact ⟨.nils, _, rfl, .inl ⟨lm_zero, rfl⟩, fun _ => rfl, k1⟩
  · intro hc
    have hc : ¬ (x = 0 ∨ y = 0) := of_decide_eq_false hc
    have hx0 : x ≠ 0 := fun e => hc (.inl e)
    have hy0 : y ≠ 0 := fun e => hc (.inr e)
    have hg0 : Nat.gcd x y ≠ 0 := fun e => hx0 (Nat.eq_zero_of_gcd_eq_zero_left e)
    have hgx : Nat.gcd x y ≤ x := Nat.gcd_le_left _ (by omega)
    obtain ⟨pg, hg, hg2⟩ := r1_Gcd hA hB (ok_lm x) (ok_lm y) hla hlb
    rw [nv_lm, nv_lm] at hg
    have hlg : (lm (Nat.gcd x y)).length < 300000 := Nat.lt_of_le_of_lt (lm_mono hgx) hla
    obtain ⟨n1, n2, c1, c2, c3⟩ := r1_DivMod hA hg (ok_lm x) (ok_lm _) hla hlg (by rw [nv_lm]; exact hg0)
    rw [nv_lm, nv_lm] at c1
    obtain ⟨d1, d2, e1, e2, e3⟩ := r1_DivMod hB hg (ok_lm y) (ok_lm _) hlb hlg (by rw [nv_lm]; exact hg0)
    rw [nv_lm, nv_lm] at e1
    refine WC_skip ?_
    show WC E _ _ _; repeat first | refine WC_seq ?_ | refine WC_block ?_ | refine WC_region ?_
    (apply WO_mv (hn := rfl); exact lk; apply WO_mv (hn := rfl); exact lk)
    apply WO_ca (hn := rfl) pg me
    · apply evs2
      exact lk
      exact lk
    · exact hg2 me
    (apply WO_as (hn := rfl); exact lk)
    refine WO_nil ?_; show WC E _ _ _; repeat first | refine WC_seq ?_ | refine WC_block ?_ | refine WC_region ?_
    (apply WO_mv (hn := rfl); exact lk; apply WO_mv (hn := rfl); exact lk)
    apply WO_ca (hn := rfl) (.tup [n1, n2, .bool true]) me
    · apply evs2
      exact lk
      exact lk
    · exact c3 me
    (apply WO_mv (hn := rfl); exact lk; apply WO_ex (hn := rfl); exact lk; exact rfl; apply WO_ex (hn := rfl); exact lk; exact rfl; apply WO_ex (hn := rfl); exact lk; exact rfl; apply WO_as (hn := rfl); exact lk)
    refine WO_nil ?_; show WC E _ _ _; repeat first | refine WC_seq ?_ | refine WC_block ?_ | refine WC_region ?_
    (apply WO_mv (hn := rfl); exact lk; apply WO_mv (hn := rfl); exact lk)
    apply WO_ca (hn := rfl) (.tup [d1, d2, .bool true]) me
    · apply evs2
      exact lk
      exact lk
    · exact e3 me
    (apply WO_mv (hn := rfl); exact lk; apply WO_ex (hn := rfl); exact lk; exact rfl; apply WO_ex (hn := rfl); exact lk; exact rfl; apply WO_ex (hn := rfl); exact lk; exact rfl; apply WO_as (hn := rfl); exact lk)
    refine WO_nil ?_; show WC E _ _ _; repeat first | refine WC_seq ?_ | refine WC_block ?_ | refine WC_region ?_
    apply WO_fa (hn := rfl)
    exact lk
    · exact rfl
    apply WO_ld (hn := rfl)
    exact lk
    · exact ld3_0 rfl rfl rfl b0
    (apply WO_mv (hn := rfl); exact lk; apply WO_mv (hn := rfl); exact lk)
    apply WO_bd (hn := rfl)
    · apply evps3
      exact lk
      exact lk
      exact lk
    · exact (show _ = some (PV.agg [.bool s, n1, d1]) from by
        rcases c1 with ⟨_, rfl⟩ | ⟨_, rfl⟩ <;> rcases e1 with ⟨_, rfl⟩ | ⟨_, rfl⟩ <;> rfl)
    apply WO_st
    exact lk
    exact lk
    · exact st3 b1 rfl (Lim.cell c1) (Lim.cell e1)
    refine WO_nil ?_
    show WC E _ _ _
    refine WC_ret ?_
    show BodyQ _ _ _ _ _
    refine fin3c rfl ex_ret rfl gk (by rw [PM.get_upd, if_pos rfl]) ?_
    refine ⟨_, _, reify_a3 rfl (Lim.flat c1) (Lim.flat e1), ?_⟩
    have hq : x / Nat.gcd x y ≠ 0 := by
      have := Nat.div_pos hgx (by omega)
      omega
    refine ⟨n1, d1, ?_, ?_, ?_, ?_⟩
    · rw [rq_num hy0]
      clear c1
      generalize x / Nat.gcd x y = t at *
      cases s
      · simp only [Bool.false_eq_true, if_false]
        rw [decide_eq_false (show ¬ (t : Int) < 0 by omega)]
      · simp only [if_true]
        rw [decide_eq_true (show -(t : Int) < 0 by omega)]
    · rw [rq_num hy0]
      cases s
      · simp only [Bool.false_eq_true, if_false, Int.natAbs_natCast]; exact c1
      · simp only [if_true, Int.natAbs_neg, Int.natAbs_natCast]; exact c1
    · intro h0
      have h1 := rq_num (s := s) (x := x) hy0
      rw [h0] at h1
      cases s
      · simp only [Bool.false_eq_true, if_false] at h1
        exact absurd h1 (by simp; omega)
      · simp only [if_true] at h1
        exact absurd h1 (by simp; omega)
    · rw [rq_den hy0]; exact e1
end Go.Ab.T
/- The document's answer: ref2.limbs, Of. -/
open Go Go.Ab
namespace Go.Ab.T
set_option maxRecDepth 10000
set_option maxHeartbeats 2000000
set_option linter.unusedSimpArgs false
attribute [local irreducible] Tr.get Tr.set

theorem r2_limbs {a b : List Nat} {p q : PV} (h : Lim a p) (h' : Lim b q) (hl : a.length < 900000) (hl' : b.length < 900000) (m : PM) : Ev E 16 [p, q] m (.bool (decide (a = b))) m := by
  refine Ev_iso rfl rfl rfl (flats2 h.flat h'.flat) (fn := Go.Proofs.Tryz.f16) rfl rfl rfl ?_ m
  show WC E _ ⟨(Tr.leaf.set 0 p).set 1 q, 26, _, _⟩ _
  have fin : ∀ {xx : Ex} {s : St} {z : Bool}, (∀ i, xx ≠ .exit i) → s.df = [] → s.tm.get 4 = some (.bool z) → decide (a = b) = z → BodyQ E Go.Proofs.Tryz.f16 (fun v m => ∃ m2, reify 12 m v = some (.bool (decide (a = b)), m2)) xx s := fun {xx s z} he hd h4 hz =>
    fin1 rfl he hd h4 ⟨s.me, by rw [hz]; rfl⟩
  repeat first | refine WC_seq ?_ | refine WC_block ?_ | refine WC_region ?_
  (apply WO_as (hn := rfl); exact lk)
  refine WO_nil ?_; show WC E _ _ _; repeat first | refine WC_seq ?_ | refine WC_block ?_ | refine WC_region ?_
  (apply WO_mv (hn := rfl); exact lk; apply WO_b1 (hn := rfl) (hb := rfl); exact lk; exact nk; apply WO_mv (hn := rfl); exact lk; apply WO_b1 (hn := rfl) (hb := rfl); exact lk; exact nk; apply WO_bin (hn := rfl); exact lk; exact lk; exact bk)
  refine WO_nil ?_
  show WC E _ _ _
  apply WC_cond; (focus (apply condOf_t; (focus (first | (apply evo_t; (repeat (first | exact get_hit | assumption | refine get_miss rfl ?_ | fail)); done) | (exact rfl) | fail))))
  · intro hne
    have hne : a.length ≠ b.length := by simp at hne; omega
    repeat first | refine WC_seq ?_ | refine WC_block ?_ | refine WC_region ?_
    (apply WO_as (hn := rfl); exact lk)
    refine WO_nil ?_
    show WC E _ _ _
    refine WC_ret ?_
    show BodyQ _ _ _ _ _
    exact fin ex_ret rfl get_hit (decide_eq_false fun e => hne (by rw [e]))
  · intro he
    have he : a.length = b.length := by simp at he; omega
    refine WC_skip ?_
    show WC E _ _ _; repeat first | refine WC_seq ?_ | refine WC_block ?_ | refine WC_region ?_
    (apply WO_as (hn := rfl); exact lk)
    refine WO_nil ?_; show WC E _ _ _; repeat first | refine WC_seq ?_ | refine WC_block ?_ | refine WC_region ?_
    refine WC_loop (fun j s => ∃ (tm : Tr PV) (i : Nat), s = ⟨tm, 26, .empty, []⟩ ∧ tm.get 0 = some p ∧ tm.get 1 = some q ∧ tm.get 5 = some (.int .i64 (i : Int)) ∧ i ≤ a.length ∧ j = a.length - i ∧ a.take i = b.take i) a.length ⟨_, 0, rfl, gk, gk, gk, by omega, by omega, by simp⟩ ?_
    rintro j s ⟨tm, i, rfl, g0, g1, g5, hi, hj, heq⟩
    repeat first | refine WC_seq ?_ | refine WC_block ?_ | refine WC_region ?_
    (apply WO_mv (hn := rfl); exact lk; apply WO_mv (hn := rfl); exact lk; apply WO_b1 (hn := rfl) (hb := rfl); exact lk; exact nk; apply WO_bin (hn := rfl); exact lk; exact lk; exact bk)
    refine WO_nil ?_; show WC E _ _ _; repeat first | refine WC_seq ?_ | refine WC_block ?_ | refine WC_region ?_
    apply WC_cond; (focus (apply condOf_t; (focus (first | (apply evo_t; (repeat (first | exact get_hit | assumption | refine get_miss rfl ?_ | fail)); done) | (exact rfl) | fail))))
    · intro hlt
      have hlt : i < a.length := by have := of_decide_eq_true hlt; omega
      obtain ⟨u, hu⟩ : ∃ u, a[i]? = some u := ⟨_, List.getElem?_eq_getElem hlt⟩
      obtain ⟨v, hv⟩ : ∃ v, b[i]? = some v := ⟨_, List.getElem?_eq_getElem (by omega)⟩
      refine WC_skip ?_
      show WC E _ _ _; repeat first | refine WC_seq ?_ | refine WC_block ?_ | refine WC_region ?_
      (apply WC_draw; (focus exact rfl))
      (apply WD_mv (hn := rfl); exact lk; apply WD_mv (hn := rfl); exact lk)
      apply WD_ia (hn := rfl)
      exact lk
      exact lk
      · exact ia_lim ty34 h hlt
      apply WD_ld (hn := rfl)
      exact lk
      · exact ty68
      · exact ld_lim rfl hu
      (apply WD_mv (hn := rfl); exact lk; apply WD_mv (hn := rfl); exact lk)
      apply WD_ia (hn := rfl)
      exact lk
      exact lk
      · exact ia_lim ty34 h' (by omega)
      apply WD_ld (hn := rfl)
      exact lk
      · exact ty68
      · exact ld_lim rfl hv
      (apply WD_bin (hn := rfl); exact lk; exact lk; exact bk)
      refine WD_nil ⟨rfl, ?_⟩; show WC E _ _ _; repeat first | refine WC_seq ?_ | refine WC_block ?_ | refine WC_region ?_
      apply WC_cond; (focus (apply condOf_t; (focus (first | (apply evo_t; (repeat (first | exact get_hit | assumption | refine get_miss rfl ?_ | fail)); done) | (exact rfl) | fail))))
      · intro hne
        have hne : u ≠ v := by simp at hne; omega
        repeat first | refine WC_seq ?_ | refine WC_block ?_ | refine WC_region ?_
        (apply WO_as (hn := rfl); exact lk)
        refine WO_nil ?_
        show WC E _ _ _
        refine WC_ret ?_
        show BodyQ _ _ _ _ _
        refine fin ex_ret rfl get_hit (decide_eq_false fun e => hne ?_)
        rw [e, hv] at hu
        exact (Option.some.inj hu).symm
      · intro hne
        have huv : u = v := by simp at hne; omega
        refine WC_skip ?_
        show WC E _ _ _; repeat first | refine WC_seq ?_ | refine WC_block ?_ | refine WC_region ?_
        (apply WO_mv (hn := rfl); exact lk; apply WO_bin (hn := rfl); exact lk; exact lk; exact bk; apply WO_as (hn := rfl); exact lk)
        refine WO_nil ?_
        refine ⟨j - 1, by omega, _, i + 1, rfl, gk, gk, gk, by omega, by omega, ?_⟩
        rw [List.take_add_one, List.take_add_one, heq, hu, hv, huv]
    · intro hlt
      have hlt : i = a.length := by have := of_decide_eq_false hlt; omega
      subst hlt
      refine WC_exit ?_
      show WC E _ _ _; repeat first | refine WC_seq ?_ | refine WC_block ?_ | refine WC_region ?_
      (apply WO_as (hn := rfl); exact lk)
      refine WO_nil ?_
      show WC E _ _ _
      refine WC_ret ?_
      show BodyQ _ _ _ _ _
      refine fin ex_ret rfl get_hit (decide_eq_true ?_)
      rw [List.take_length, he, List.take_length] at heq
      exact heq

theorem r2_Of {s : Bool} {a b : List Nat} {p q : PV} (h : Lim a p) (h' : Lim b q) (ho : Ok a) (ho' : Ok b) (hl : a.length < 300000) (hl' : b.length < 300000) : ∃ v, RatP (rq s (nv a) (nv b)) v ∧ ∀ m, Ev E 12 [.bool s, p, q] m v m := by
  have hw : RatW (rq s (nv a) (nv b)) (.agg [.bool s, p, q]) := ⟨s, p, q, a, b, rfl, h, h', ho, ho', hl, hl', rfl⟩
  obtain ⟨w, e1, e2⟩ := r2_Norm hw
  have e1' := e1
  obtain ⟨qa, qb, rfl, f1, f0, f2⟩ := e1'
  refine Ev_isoE rfl rfl rfl (flats3 rfl h.flat h'.flat) (fn := Go.Proofs.Tryz.f12) rfl rfl rfl ?_
  show WC E _ ⟨((Tr.leaf.set 0 _).set 1 p).set 2 q, 12, _, _⟩ _
  repeat first | refine WC_seq ?_ | refine WC_block ?_ | refine WC_region ?_
  apply WO_al (hn := rfl)
  · exact rfl
  rw [show PM.empty.next = 0 from rfl]
  have b0 : (PM.empty.new (.cells [.bool false, .nils, .nils] 0 false 36)).get 0 = some (.cells [.bool false, .nils, .nils] 0 false 36) := one_get0
  generalize PM.empty.new (.cells [.bool false, .nils, .nils] 0 false 36) = me at *
  refine WO_nil ?_; show WC E _ _ _; repeat first | refine WC_seq ?_ | refine WC_block ?_ | refine WC_region ?_
  (apply WO_mv (hn := rfl); exact lk; apply WO_mv (hn := rfl); exact lk; apply WO_mv (hn := rfl); exact lk)
  apply WO_bd (hn := rfl)
  · apply evps3
    exact lk
    exact lk
    exact lk
  · exact (show _ = some (PV.agg [.bool s, p, q]) from by
      rcases h with ⟨_, rfl⟩ | ⟨_, rfl⟩ <;> rcases h' with ⟨_, rfl⟩ | ⟨_, rfl⟩ <;> rfl)
  apply WO_ca (hn := rfl) (.agg [.bool (decide ((rq s (nv a) (nv b)).num < 0)), qa, qb]) me
  · exact evs1 lk
  · exact e2 me
  apply WO_st
  exact lk
  exact lk
  · exact st3 b0 rfl (Lim.cell f1) (Lim.cell f2)
  refine WO_nil ?_
  show WC E _ _ _
  refine WC_ret ?_
  show BodyQ _ _ _ _ _
  exact fin3c rfl ex_ret rfl gk (by rw [PM.get_upd, if_pos rfl]) ⟨_, _, reify_a3 rfl (Lim.flat f1) (Lim.flat f2), e1⟩
end Go.Ab.T
/- The document's answer: ref2.Same. -/
open Go Go.Ab
namespace Go.Ab.T
set_option maxRecDepth 10000
set_option maxHeartbeats 2000000
set_option linter.unusedSimpArgs false
attribute [local irreducible] Tr.get Tr.set

theorem lm_inj {x y : Nat} (h : lm x = lm y) : x = y := by rw [← nv_lm x, h, nv_lm]
theorem rat_same {r t : Rat} (h1 : decide (r.num < 0) = decide (t.num < 0)) (h2 : lm r.num.natAbs = lm t.num.natAbs) (h3 : lm r.den = lm t.den) : r = t := by
  have e2 := lm_inj h2
  refine Rat.ext ?_ (lm_inj h3)
  by_cases hr : r.num < 0
  · have ht : t.num < 0 := by rw [decide_eq_true hr] at h1; exact of_decide_eq_true h1.symm
    omega
  · have ht : ¬ t.num < 0 := by rw [decide_eq_false hr] at h1; exact of_decide_eq_false h1.symm
    omega

theorem r2_Same {r t : Rat} {v w : PV} (h : RatW r v) (h' : RatW t w) (hb : Bd 100000 r) (hb' : Bd 100000 t) (m : PM) : Ev E 11 [v, w] m (.bool (decide (r = t))) m := by
  obtain ⟨v1, hv, hv2⟩ := r2_Norm h
  obtain ⟨w1, hw, hw2⟩ := r2_Norm h'
  obtain ⟨s, pa, pb, a, b, rfl, a1, a2, a3, a4, a5, a6, a7⟩ := h
  obtain ⟨s', pa', pb', a', b', rfl, c1, c2, c3, c4, c5, c6, c7⟩ := h'
  obtain ⟨pn, pd, rfl, k1, k0, k2⟩ := hv
  obtain ⟨pn', pd', rfl, l1, l0, l2⟩ := hw
  have n1 := hb.1
  have n2 := hb.2
  have n3 := hb'.1
  have n4 := hb'.2
  have li1 := r2_limbs k1 l1 (by omega) (by omega)
  have li2 := r2_limbs k2 l2 (by omega) (by omega)
  suffices hh : ∃ q, q = PV.bool (decide (r = t)) ∧ ∀ m, Ev E 11 [.agg [.bool s, pa, pb], .agg [.bool s', pa', pb']] m q m by
    obtain ⟨q, rfl, hh⟩ := hh
    exact hh m
  refine Ev_isoR rfl rfl rfl (re_agg2 (flats3 rfl (Lim.flat a1) (Lim.flat a2)) (flats3 rfl (Lim.flat c1) (Lim.flat c2))) (fn := Go.Proofs.Tryz.f11) rfl rfl rfl ?_
  show WC E _ ⟨(Tr.leaf.set 0 _).set 1 _, 30, _, _⟩ _
  repeat first | refine WC_seq ?_ | refine WC_block ?_ | refine WC_region ?_
  apply WO_bx (hn := rfl)
  exact lk
  · exact bx3 rfl (Lim.cell a1) (Lim.cell a2)
  apply WO_bx (hn := rfl)
  exact lk
  · exact bx3 rfl (Lim.cell c1) (Lim.cell c2)
  rw [show PM.empty.next = 0 from rfl, show (PM.empty.new (.cells [.bool s, pa, pb] 0 false 36)).next = 1 from rfl]
  have b0 := two_get0 (x := .cells [.bool s, pa, pb] 0 false 36) (y := .cells [.bool s', pa', pb'] 0 false 36)
  have b1 := two_get1 (x := .cells [.bool s, pa, pb] 0 false 36) (y := .cells [.bool s', pa', pb'] 0 false 36)
  have hnx : ((PM.empty.new (.cells [.bool s, pa, pb] 0 false 36)).new (.cells [.bool s', pa', pb'] 0 false 36)).next = 2 := rfl
  generalize (PM.empty.new (.cells [.bool s, pa, pb] 0 false 36)).new (.cells [.bool s', pa', pb'] 0 false 36) = me at *
  (apply WO_as (hn := rfl); exact lk)
  refine WO_nil ?_; show WC E _ _ _; repeat first | refine WC_seq ?_ | refine WC_block ?_ | refine WC_region ?_
  (apply WC_draw; (focus exact rfl))
  have d0 : ((me.new (.cells [.bool false, .nils, .nils] 0 false 36)).new (.cells [.bool false, .nils, .nils] 0 false 36)).get 0 = some (.cells [.bool s, pa, pb] 0 false 36) := by
    rw [PM.get_new, if_neg (by rw [PM.next_new, hnx]; decide), PM.get_new, if_neg (by rw [hnx]; decide)]; exact b0
  have d1 : ((me.new (.cells [.bool false, .nils, .nils] 0 false 36)).new (.cells [.bool false, .nils, .nils] 0 false 36)).get 1 = some (.cells [.bool s', pa', pb'] 0 false 36) := by
    rw [PM.get_new, if_neg (by rw [PM.next_new, hnx]; decide), PM.get_new, if_neg (by rw [hnx]; decide)]; exact b1
  have d2 : ((me.new (.cells [.bool false, .nils, .nils] 0 false 36)).new (.cells [.bool false, .nils, .nils] 0 false 36)).get 2 = some (.cells [.bool false, .nils, .nils] 0 false 36) := by
    rw [PM.get_new, if_neg (by rw [PM.next_new, hnx]; decide), PM.get_new, if_pos (by rw [hnx])]
  have d3 : ((me.new (.cells [.bool false, .nils, .nils] 0 false 36)).new (.cells [.bool false, .nils, .nils] 0 false 36)).get 3 = some (.cells [.bool false, .nils, .nils] 0 false 36) := by
    rw [PM.get_new, if_pos (by rw [PM.next_new, hnx])]
  rw [PM.next_new, hnx]
  generalize (me.new (.cells [.bool false, .nils, .nils] 0 false 36)).new (.cells [.bool false, .nils, .nils] 0 false 36) = mA at *
  apply WD_ld (hn := rfl)
  exact lk
  · exact ty36
  · exact ld3 ty36.symm d0
  apply WD_ca (hn := rfl)
  · exact evs1 lk
  · exact hv2 mA
  · exact rfl
  apply WD_ld (hn := rfl)
  exact lk
  · exact ty36
  · exact ld3 ty36.symm d1
  apply WD_ca (hn := rfl)
  · exact evs1 lk
  · exact hw2 mA
  · exact rfl
  apply WD_al (hn := rfl)
  apply WD_al (hn := rfl)
  apply WD_st
  exact lk
  exact lk
  · exact st3 d2 rfl (Lim.cell k1) (Lim.cell k2)
  apply WD_st
  exact lk
  exact lk
  · exact st3 (x := .bool false) (y := .nils) (z := .nils) (et := 36) (by rw [PM.get_upd, if_neg (by decide)]; exact d3) rfl (Lim.cell l1) (Lim.cell l2)
  refine WD_nil ⟨?_, ?_⟩
  · have s1 := sameRead_me d1 c1 c2
    have s0 := sameRead_me d0 a1 a2
    simp only [trOk, okAll, okOne, okPair, s1, s0, Bool.or_true, Bool.true_and, Bool.and_true]
    rfl
  have b3 : ((mA.upd 2 (.cells [.bool (decide (r.num < 0)), pn, pd] 0 false 36)).upd 3 (.cells [.bool (decide (t.num < 0)), pn', pd'] 0 false 36)).get 2 = some (.cells [.bool (decide (r.num < 0)), pn, pd] 0 false 36) := by rw [PM.get_upd, if_neg (by decide), PM.get_upd, if_pos rfl]
  have b4 : ((mA.upd 2 (.cells [.bool (decide (r.num < 0)), pn, pd] 0 false 36)).upd 3 (.cells [.bool (decide (t.num < 0)), pn', pd'] 0 false 36)).get 3 = some (.cells [.bool (decide (t.num < 0)), pn', pd'] 0 false 36) := by rw [PM.get_upd, if_pos rfl]
  generalize (mA.upd 2 (.cells [.bool (decide (r.num < 0)), pn, pd] 0 false 36)).upd 3 (.cells [.bool (decide (t.num < 0)), pn', pd'] 0 false 36) = m2 at *
  have fin : ∀ {s : St} {z : Bool}, s.df = [] → s.tm.get 4 = some (.bool z) → z = decide (r = t) → BodyQ E Go.Proofs.Tryz.f11 (fun v m => ∃ q m2, reify 12 m v = some (q, m2) ∧ q = PV.bool (decide (r = t))) .ret s := fun {s z} hd h4 hz =>
    fin1 rfl ex_ret hd h4 ⟨_, s.me, rfl, by rw [hz]⟩
  show WC E _ _ _; repeat first | refine WC_seq ?_ | refine WC_block ?_ | refine WC_region ?_
  apply WO_fa (hn := rfl)
  exact lk
  · exact rfl
  apply WO_ld (hn := rfl)
  exact lk
  · exact ld3_0 rfl rfl rfl b3
  apply WO_fa (hn := rfl)
  exact lk
  · exact rfl
  apply WO_ld (hn := rfl)
  exact lk
  · exact ld3_0 rfl rfl rfl b4
  apply WO_bin (hn := rfl)
  exact lk
  exact lk
  · exact b_eqlB ty4
  by_cases e1 : decide (r.num < 0) = decide (t.num < 0)
  · rw [decide_eq_true e1]
    (apply WO_mv (hn := rfl); exact lk; apply WO_gt; exact uk)
    apply WO_fa (hn := rfl)
    exact lk
    · exact rfl
    (apply WO_gt; exact uk)
    apply WO_ld (hn := rfl)
    exact lk
    · exact ld3_1 rfl rfl rfl b3
    (apply WO_gt; exact uk)
    apply WO_fa (hn := rfl)
    exact lk
    · exact rfl
    (apply WO_gt; exact uk)
    apply WO_ld (hn := rfl)
    exact lk
    · exact ld3_1 rfl rfl rfl b4
    (apply WO_gt; exact uk)
    apply WO_ca (hn := rfl) (.bool (decide (lm r.num.natAbs = lm t.num.natAbs))) m2
    · apply evs2
      exact lk
      exact lk
    · exact li1 m2
    apply WO_pkt (hn := rfl)
    exact lk
    · exact rfl
    exact lk
    by_cases e2 : lm r.num.natAbs = lm t.num.natAbs
    · rw [decide_eq_true e2]
      (apply WO_mv (hn := rfl); exact lk; apply WO_gt; exact uk)
      apply WO_fa (hn := rfl)
      exact lk
      · exact rfl
      (apply WO_gt; exact uk)
      apply WO_ld (hn := rfl)
      exact lk
      · exact ld3_2 rfl rfl rfl b3
      (apply WO_gt; exact uk)
      apply WO_fa (hn := rfl)
      exact lk
      · exact rfl
      (apply WO_gt; exact uk)
      apply WO_ld (hn := rfl)
      exact lk
      · exact ld3_2 rfl rfl rfl b4
      (apply WO_gt; exact uk)
      apply WO_ca (hn := rfl) (.bool (decide (lm r.den = lm t.den))) m2
      · apply evs2
        exact lk
        exact lk
      · exact li2 m2
      apply WO_pkt (hn := rfl)
      exact lk
      · exact rfl
      exact lk
      (apply WO_as (hn := rfl); exact lk)
      refine WO_nil ?_
      show WC E _ _ _
      refine WC_ret ?_
      exact fin rfl get_hit (decide_eq_decide.2 ⟨fun e3 => rat_same e1 e2 e3, fun e => by rw [e]⟩)
    · rw [decide_eq_false e2]
      (apply WO_mv (hn := rfl); exact lk; apply WO_gf; exact uk; exact rfl; apply WO_gf; exact uk; exact rfl; apply WO_gf; exact uk; exact rfl; apply WO_gf; exact uk; exact rfl; apply WO_gf; exact uk; exact rfl)
      apply WO_pkf (hn := rfl)
      exact lk
      · exact rfl
      · exact rfl
      (apply WO_as (hn := rfl); exact lk)
      refine WO_nil ?_
      show WC E _ _ _
      refine WC_ret ?_
      exact fin rfl get_hit (decide_eq_false fun e => e2 (by rw [e])).symm
  · rw [decide_eq_false e1]
    (apply WO_mv (hn := rfl); exact lk; apply WO_gf; exact uk; exact rfl; apply WO_gf; exact uk; exact rfl; apply WO_gf; exact uk; exact rfl; apply WO_gf; exact uk; exact rfl; apply WO_gf; exact uk; exact rfl)
    apply WO_pkf (hn := rfl)
    exact lk
    · exact rfl
    · exact rfl
    (apply WO_mv (hn := rfl); exact lk; apply WO_gf; exact uk; exact rfl; apply WO_gf; exact uk; exact rfl; apply WO_gf; exact uk; exact rfl; apply WO_gf; exact uk; exact rfl; apply WO_gf; exact uk; exact rfl)
    apply WO_pkf (hn := rfl)
    exact lk
    · exact rfl
    · exact rfl
    (apply WO_as (hn := rfl); exact lk)
    refine WO_nil ?_
    show WC E _ _ _
    refine WC_ret ?_
    exact fin rfl get_hit (decide_eq_false fun e => e1 (by rw [e])).symm
end Go.Ab.T
/- The document's answer: ref2.Is. -/
open Go Go.Ab
namespace Go.Ab.T
set_option maxRecDepth 10000
set_option maxHeartbeats 2000000
set_option linter.unusedSimpArgs false
attribute [local irreducible] Tr.get Tr.set

theorem rq_bd {s : Bool} {a b : List Nat} {L : Nat} (ho : Ok a) (ho' : Ok b) (ha : a.length ≤ L) (hb : b.length ≤ L) (hL : 1 ≤ L) : Bd L (rq s (nv a) (nv b)) := by
  have h0 : Bd L 0 := ⟨by rw [show (0 : Rat).num.natAbs = 0 from rfl, lm_zero]; exact Nat.zero_le _, by rw [show (0 : Rat).den = 1 from rfl, lm_one]; exact hL⟩
  by_cases hy : nv b = 0
  · rw [rq_zero (.inr hy)]; exact h0
  · constructor
    · have e : (rq s (nv a) (nv b)).num.natAbs = nv a / Nat.gcd (nv a) (nv b) := by
        rw [rq_num hy]
        cases s
        · simp only [Bool.false_eq_true, if_false]
          exact Int.natAbs_natCast _
        · simp only [if_true, Int.natAbs_neg]
          exact Int.natAbs_natCast _
      rw [e]
      exact Nat.le_trans (Nat.le_trans (lm_mono (Nat.div_le_self _ _)) (lm_le ho)) ha
    · rw [rq_den hy]
      exact Nat.le_trans (Nat.le_trans (lm_mono (Nat.div_le_self _ _)) (lm_le ho')) hb

theorem r2_Is {r : Rat} {s : Bool} {pa pb : PV} {a b : List Nat} (h1 : Lim a pa) (h2 : Lim b pb) (h3 : Ok a) (h4 : Ok b) (h5 : a.length < 100000) (h6 : b.length < 100000) (h7 : rq s (nv a) (nv b) = r) :
    ∃ q : Bool, (q = true → RatC r (.agg [.bool s, pa, pb]) ∧ a = lm r.num.natAbs ∧ b = lm r.den) ∧ ∀ m, Ev E 6 [.agg [.bool s, pa, pb]] m (.bool q) m := by
  have hbd : Bd 100000 r := by rw [← h7]; exact rq_bd h3 h4 (by omega) (by omega) (by decide)
  obtain ⟨w1, hw, hw2⟩ := r2_Norm (r := r) (v := .agg [.bool s, pa, pb]) ⟨s, pa, pb, a, b, rfl, h1, h2, h3, h4, by omega, by omega, h7⟩
  obtain ⟨pn, pd, rfl, k1, k0, k2⟩ := hw
  have n1 := hbd.1
  have n2 := hbd.2
  have li1 := r2_limbs h1 k1 (by omega) (by omega)
  have li2 := r2_limbs h2 k2 (by omega) (by omega)
  suffices hh : ∃ q, (∃ z : Bool, q = PV.bool z ∧ (z = true → RatC r (.agg [.bool s, pa, pb]) ∧ a = lm r.num.natAbs ∧ b = lm r.den)) ∧ ∀ m, Ev E 6 [.agg [.bool s, pa, pb]] m q m by
    obtain ⟨q, ⟨z, rfl, hz⟩, hh⟩ := hh
    exact ⟨z, hz, hh⟩
  refine Ev_isoR rfl rfl rfl (re_agg (flats3 rfl (Lim.flat h1) (Lim.flat h2))) (fn := Go.Proofs.Tryz.f6) rfl rfl rfl ?_
  show WC E _ ⟨Tr.leaf.set 0 _, 25, _, _⟩ _
  repeat first | refine WC_seq ?_ | refine WC_block ?_ | refine WC_region ?_
  apply WO_bx (hn := rfl)
  exact lk
  · exact bx3 rfl (Lim.cell h1) (Lim.cell h2)
  rw [show PM.empty.next = 0 from rfl]
  have b0 : (PM.empty.new (.cells [.bool s, pa, pb] 0 false 36)).get 0 = some (.cells [.bool s, pa, pb] 0 false 36) := by
    rw [PM.get_new]; exact if_pos rfl
  have hnx : (PM.empty.new (.cells [.bool s, pa, pb] 0 false 36)).next = 1 := rfl
  generalize (PM.empty.new (.cells [.bool s, pa, pb] 0 false 36)) = me at *
  (apply WO_as (hn := rfl); exact lk)
  refine WO_nil ?_; show WC E _ _ _; repeat first | refine WC_seq ?_ | refine WC_block ?_ | refine WC_region ?_
  apply WO_ld (hn := rfl)
  exact lk
  · exact ld3 rfl b0
  apply WO_ca (hn := rfl) (.agg [.bool (decide (r.num < 0)), pn, pd]) me
  · exact evs1 lk
  · exact hw2 me
  apply WO_al (hn := rfl)
  · exact rfl
  rw [hnx]
  have d0 : (me.new (.cells [.bool false, .nils, .nils] 0 false 36)).get 0 = some (.cells [.bool s, pa, pb] 0 false 36) := by
    rw [PM.get_new, if_neg (by rw [hnx]; decide)]; exact b0
  have d1 : (me.new (.cells [.bool false, .nils, .nils] 0 false 36)).get 1 = some (.cells [.bool false, .nils, .nils] 0 false 36) := by
    rw [PM.get_new, if_pos hnx]
  generalize me.new (.cells [.bool false, .nils, .nils] 0 false 36) = mA at *
  apply WO_st
  exact lk
  exact lk
  · exact st3 d1 rfl (Lim.cell k1) (Lim.cell k2)
  have b3 : (mA.upd 1 (.cells [.bool (decide (r.num < 0)), pn, pd] 0 false 36)).get 0 = some (.cells [.bool s, pa, pb] 0 false 36) := by rw [PM.get_upd, if_neg (by decide)]; exact d0
  have b4 : (mA.upd 1 (.cells [.bool (decide (r.num < 0)), pn, pd] 0 false 36)).get 1 = some (.cells [.bool (decide (r.num < 0)), pn, pd] 0 false 36) := by rw [PM.get_upd, if_pos rfl]
  generalize mA.upd 1 (.cells [.bool (decide (r.num < 0)), pn, pd] 0 false 36) = m2 at *
  have fin : ∀ {st : St} {z : Bool}, st.df = [] → st.tm.get 2 = some (.bool z) → (z = true → RatC r (.agg [.bool s, pa, pb]) ∧ a = lm r.num.natAbs ∧ b = lm r.den) → BodyQ E Go.Proofs.Tryz.f6 (fun v m => ∃ q m2, reify 12 m v = some (q, m2) ∧ ∃ z : Bool, q = PV.bool z ∧ (z = true → RatC r (.agg [.bool s, pa, pb]) ∧ a = lm r.num.natAbs ∧ b = lm r.den)) .ret st := fun {st z} hd h4 hz =>
    fin1 rfl ex_ret hd h4 ⟨_, st.me, rfl, z, rfl, hz⟩
  refine WO_nil ?_; show WC E _ _ _; repeat first | refine WC_seq ?_ | refine WC_block ?_ | refine WC_region ?_
  apply WO_fa (hn := rfl)
  exact lk
  · exact rfl
  apply WO_ld (hn := rfl)
  exact lk
  · exact ld3_0 rfl rfl rfl b3
  apply WO_fa (hn := rfl)
  exact lk
  · exact rfl
  apply WO_ld (hn := rfl)
  exact lk
  · exact ld3_0 rfl rfl rfl b4
  apply WO_bin (hn := rfl)
  exact lk
  exact lk
  · exact b_eqlB ty4
  by_cases e1 : s = decide (r.num < 0)
  · rw [decide_eq_true e1]
    (apply WO_mv (hn := rfl); exact lk; apply WO_gt; exact uk)
    apply WO_fa (hn := rfl)
    exact lk
    · exact rfl
    (apply WO_gt; exact uk)
    apply WO_ld (hn := rfl)
    exact lk
    · exact ld3_1 rfl rfl rfl b3
    (apply WO_gt; exact uk)
    apply WO_fa (hn := rfl)
    exact lk
    · exact rfl
    (apply WO_gt; exact uk)
    apply WO_ld (hn := rfl)
    exact lk
    · exact ld3_1 rfl rfl rfl b4
    (apply WO_gt; exact uk)
    apply WO_ca (hn := rfl) (.bool (decide (a = lm r.num.natAbs))) m2
    · apply evs2
      exact lk
      exact lk
    · exact li1 m2
    apply WO_pkt (hn := rfl)
    exact lk
    · exact rfl
    exact lk
    by_cases e2 : a = lm r.num.natAbs
    · rw [decide_eq_true e2]
      (apply WO_mv (hn := rfl); exact lk; apply WO_gt; exact uk)
      apply WO_fa (hn := rfl)
      exact lk
      · exact rfl
      (apply WO_gt; exact uk)
      apply WO_ld (hn := rfl)
      exact lk
      · exact ld3_2 rfl rfl rfl b3
      (apply WO_gt; exact uk)
      apply WO_fa (hn := rfl)
      exact lk
      · exact rfl
      (apply WO_gt; exact uk)
      apply WO_ld (hn := rfl)
      exact lk
      · exact ld3_2 rfl rfl rfl b4
      (apply WO_gt; exact uk)
      apply WO_ca (hn := rfl) (.bool (decide (b = lm r.den))) m2
      · apply evs2
        exact lk
        exact lk
      · exact li2 m2
      apply WO_pkt (hn := rfl)
      exact lk
      · exact rfl
      exact lk
      (apply WO_as (hn := rfl); exact lk)
      refine WO_nil ?_
      show WC E _ _ _
      refine WC_ret ?_
      exact fin rfl get_hit fun e3 => by
        have e3 := of_decide_eq_true e3
        exact ⟨⟨pa, pb, by rw [e1], by rw [← e2]; exact h1, by rw [← e3]; exact h2⟩, e2, e3⟩
    · rw [decide_eq_false e2]
      (apply WO_mv (hn := rfl); exact lk; apply WO_gf; exact uk; exact rfl; apply WO_gf; exact uk; exact rfl; apply WO_gf; exact uk; exact rfl; apply WO_gf; exact uk; exact rfl; apply WO_gf; exact uk; exact rfl)
      apply WO_pkf (hn := rfl)
      exact lk
      · exact rfl
      · exact rfl
      (apply WO_as (hn := rfl); exact lk)
      refine WO_nil ?_
      show WC E _ _ _
      refine WC_ret ?_
      exact fin rfl get_hit nofun
  · rw [decide_eq_false e1]
    (apply WO_mv (hn := rfl); exact lk; apply WO_gf; exact uk; exact rfl; apply WO_gf; exact uk; exact rfl; apply WO_gf; exact uk; exact rfl; apply WO_gf; exact uk; exact rfl; apply WO_gf; exact uk; exact rfl)
    apply WO_pkf (hn := rfl)
    exact lk
    · exact rfl
    · exact rfl
    (apply WO_mv (hn := rfl); exact lk; apply WO_gf; exact uk; exact rfl; apply WO_gf; exact uk; exact rfl; apply WO_gf; exact uk; exact rfl; apply WO_gf; exact uk; exact rfl; apply WO_gf; exact uk; exact rfl)
    apply WO_pkf (hn := rfl)
    exact lk
    · exact rfl
    · exact rfl
    (apply WO_as (hn := rfl); exact lk)
    refine WO_nil ?_
    show WC E _ _ _
    refine WC_ret ?_
    exact fin rfl get_hit nofun
end Go.Ab.T
/- The document's answer: ref2.Add. -/
open Go Go.Ab
namespace Go.Ab.T
set_option maxRecDepth 10000
set_option maxHeartbeats 2000000
set_option linter.unusedSimpArgs false
attribute [local irreducible] Tr.get Tr.set

theorem r2_Add {r t : Rat} {v w : PV} (h : RatW r v) (h' : RatW t w) (hb : Bd 100000 r) (hb' : Bd 100000 t) : ∃ q, RatP (r + t) q ∧ ∀ m, Ev E 10 [v, w] m q m := by
  obtain ⟨v1, hv, hv2⟩ := r2_Norm h
  obtain ⟨w1, hw, hw2⟩ := r2_Norm h'
  obtain ⟨s, pa, pb, a, b, rfl, a1, a2, a3, a4, a5, a6, a7⟩ := h
  obtain ⟨s', pa', pb', a', b', rfl, c1, c2, c3, c4, c5, c6, c7⟩ := h'
  obtain ⟨pn, pd, rfl, k1, k0, k2⟩ := hv
  obtain ⟨pn', pd', rfl, l1, l0, l2⟩ := hw
  have n1 := hb.1
  have n2 := hb.2
  have n3 := hb'.1
  have n4 := hb'.2
  obtain ⟨qn, x1, x2⟩ := r1_Mul k1 l2 (ok_lm _) (ok_lm _) (by omega) (by omega)
  obtain ⟨qm, x3, x4⟩ := r1_Mul l1 k2 (ok_lm _) (ok_lm _) (by omega) (by omega)
  obtain ⟨qd, x5, x6⟩ := r1_Mul k2 l2 (ok_lm _) (ok_lm _) (by omega) (by omega)
  rw [nv_lm, nv_lm] at x1 x3 x5
  have m1 := lm_mul_len n1 n4
  have m2 := lm_mul_len n3 n2
  have m3 := lm_mul_len n2 n4
  have hd0 := r.den_nz
  have hd0' := t.den_nz
  -- the three ways
  obtain ⟨ss, y1, y2⟩ := r1_Add x1 x3 (ok_lm _) (ok_lm _) (by omega) (by omega)
  have sub1 := r1_Sub x1 x3 (ok_lm _) (ok_lm _) (by omega) (by omega)
  have sub2 := r1_Sub x3 x1 (ok_lm _) (ok_lm _) (by omega) (by omega)
  have cmp := fun m => r1_Cmp x1 x3 (ok_lm _) (ok_lm _) (by omega) (by omega) m
  rw [nv_lm, nv_lm] at y1 sub1 sub2
  simp only [nv_lm] at cmp
  have hN : ((r.num.natAbs * t.den : Nat) : Int) = (r.num.natAbs : Int) * t.den := Int.natCast_mul _ _
  have hM : ((t.num.natAbs * r.den : Nat) : Int) = (t.num.natAbs : Int) * r.den := Int.natCast_mul _ _
  have hr1 : ¬ r.num < 0 → ((r.num.natAbs * t.den : Nat) : Int) = r.num * t.den := fun hh => by rw [hN, show (r.num.natAbs : Int) = r.num by omega]
  have hr2 : r.num < 0 → ((r.num.natAbs * t.den : Nat) : Int) = -(r.num * t.den) := fun hh => by rw [hN, show (r.num.natAbs : Int) = -r.num by omega, Int.neg_mul]
  have ht1 : ¬ t.num < 0 → ((t.num.natAbs * r.den : Nat) : Int) = t.num * r.den := fun hh => by rw [hM, show (t.num.natAbs : Int) = t.num by omega]
  have ht2 : t.num < 0 → ((t.num.natAbs * r.den : Nat) : Int) = -(t.num * r.den) := fun hh => by rw [hM, show (t.num.natAbs : Int) = -t.num by omega, Int.neg_mul]
  generalize r.num.natAbs * t.den = N at *
  generalize t.num.natAbs * r.den = M at *
  have same : decide (r.num < 0) = decide (t.num < 0) → rq (decide (r.num < 0)) (N + M) (r.den * t.den) = r + t := by
    intro e
    rw [← rq_add]
    unfold rq
    by_cases h1 : r.num < 0
    · have h2 : t.num < 0 := by rw [decide_eq_true h1] at e; exact of_decide_eq_true e.symm
      have e1 := hr2 h1
      have e2 := ht2 h2
      rw [decide_eq_true h1, if_pos rfl, Rat.neg_mkRat]
      congr 1
      omega
    · have h2 : ¬ t.num < 0 := by rw [decide_eq_false h1] at e; exact of_decide_eq_false e.symm
      have e1 := hr1 h1
      have e2 := ht1 h2
      rw [decide_eq_false h1, if_neg (by decide)]
      congr 1
      omega
  have left : decide (r.num < 0) ≠ decide (t.num < 0) → M ≤ N → rq (decide (r.num < 0)) (N - M) (r.den * t.den) = r + t := by
    intro e hle
    rw [← rq_add]
    unfold rq
    by_cases h1 : r.num < 0
    · have h2 : ¬ t.num < 0 := fun h2 => e (by rw [decide_eq_true h1, decide_eq_true h2])
      have e1 := hr2 h1
      have e2 := ht1 h2
      rw [decide_eq_true h1, if_pos rfl, Rat.neg_mkRat]
      congr 1
      omega
    · have h2 : t.num < 0 := Decidable.byContradiction fun h2 => e (by rw [decide_eq_false h1, decide_eq_false h2])
      have e1 := hr1 h1
      have e2 := ht2 h2
      rw [decide_eq_false h1, if_neg (by decide)]
      congr 1
      omega
  have right : decide (r.num < 0) ≠ decide (t.num < 0) → N < M → rq (decide (t.num < 0)) (M - N) (r.den * t.den) = r + t := by
    intro e hle
    rw [← rq_add]
    unfold rq
    by_cases h1 : r.num < 0
    · have h2 : ¬ t.num < 0 := fun h2 => e (by rw [decide_eq_true h1, decide_eq_true h2])
      have e1 := hr2 h1
      have e2 := ht1 h2
      rw [decide_eq_false h2, if_neg (by decide)]
      congr 1
      omega
    · have h2 : t.num < 0 := Decidable.byContradiction fun h2 => e (by rw [decide_eq_false h1, decide_eq_false h2])
      have e1 := hr1 h1
      have e2 := ht2 h2
      rw [decide_eq_true h2, if_pos rfl, Rat.neg_mkRat]
      congr 1
      omega
  clear hN hM hr1 hr2 ht1 ht2
  refine Ev_isoR rfl rfl rfl (re_agg2 (flats3 rfl (Lim.flat a1) (Lim.flat a2)) (flats3 rfl (Lim.flat c1) (Lim.flat c2))) (fn := Go.Proofs.Tryz.f10) rfl rfl rfl ?_
  show WC E _ ⟨(Tr.leaf.set 0 _).set 1 _, 71, _, _⟩ _
  repeat first | refine WC_seq ?_ | refine WC_block ?_ | refine WC_region ?_
  apply WO_bx (hn := rfl)
  exact lk
  · exact bx3 rfl (Lim.cell a1) (Lim.cell a2)
  apply WO_bx (hn := rfl)
  exact lk
  · exact bx3 rfl (Lim.cell c1) (Lim.cell c2)
  apply WO_al (hn := rfl)
  · exact rfl
  rw [show PM.empty.next = 0 from rfl, show (PM.empty.new (.cells [.bool s, pa, pb] 0 false 36)).next = 1 from rfl, show ((PM.empty.new (.cells [.bool s, pa, pb] 0 false 36)).new (.cells [.bool s', pa', pb'] 0 false 36)).next = 2 from rfl]
  have b0 := three_get0 (x := .cells [.bool s, pa, pb] 0 false 36) (y := .cells [.bool s', pa', pb'] 0 false 36) (z := .cells [.bool false, .nils, .nils] 0 false 36)
  have b1 := three_get1 (x := .cells [.bool s, pa, pb] 0 false 36) (y := .cells [.bool s', pa', pb'] 0 false 36) (z := .cells [.bool false, .nils, .nils] 0 false 36)
  have b2 := three_get2 (x := .cells [.bool s, pa, pb] 0 false 36) (y := .cells [.bool s', pa', pb'] 0 false 36) (z := .cells [.bool false, .nils, .nils] 0 false 36)
  have hnx : (((PM.empty.new (.cells [.bool s, pa, pb] 0 false 36)).new (.cells [.bool s', pa', pb'] 0 false 36)).new (.cells [.bool false, .nils, .nils] 0 false 36)).next = 3 := rfl
  generalize ((PM.empty.new (.cells [.bool s, pa, pb] 0 false 36)).new (.cells [.bool s', pa', pb'] 0 false 36)).new (.cells [.bool false, .nils, .nils] 0 false 36) = me at *
  refine WO_nil ?_; show WC E _ _ _; repeat first | refine WC_seq ?_ | refine WC_block ?_ | refine WC_region ?_
  (apply WC_draw; (focus exact rfl))
  have g0 : ((me.new (.cells [.bool false, .nils, .nils] 0 false 36)).new (.cells [.bool false, .nils, .nils] 0 false 36)).get 0 = some (.cells [.bool s, pa, pb] 0 false 36) := by
    rw [PM.get_new, if_neg (by rw [PM.next_new, hnx]; decide), PM.get_new, if_neg (by rw [hnx]; decide)]; exact b0
  have g1 : ((me.new (.cells [.bool false, .nils, .nils] 0 false 36)).new (.cells [.bool false, .nils, .nils] 0 false 36)).get 1 = some (.cells [.bool s', pa', pb'] 0 false 36) := by
    rw [PM.get_new, if_neg (by rw [PM.next_new, hnx]; decide), PM.get_new, if_neg (by rw [hnx]; decide)]; exact b1
  have g2 : ((me.new (.cells [.bool false, .nils, .nils] 0 false 36)).new (.cells [.bool false, .nils, .nils] 0 false 36)).get 2 = some (.cells [.bool false, .nils, .nils] 0 false 36) := by
    rw [PM.get_new, if_neg (by rw [PM.next_new, hnx]; decide), PM.get_new, if_neg (by rw [hnx]; decide)]; exact b2
  have g3 : ((me.new (.cells [.bool false, .nils, .nils] 0 false 36)).new (.cells [.bool false, .nils, .nils] 0 false 36)).get 3 = some (.cells [.bool false, .nils, .nils] 0 false 36) := by
    rw [PM.get_new, if_neg (by rw [PM.next_new, hnx]; decide), PM.get_new, if_pos hnx]
  have g4 : ((me.new (.cells [.bool false, .nils, .nils] 0 false 36)).new (.cells [.bool false, .nils, .nils] 0 false 36)).get 4 = some (.cells [.bool false, .nils, .nils] 0 false 36) := by
    rw [PM.get_new, if_pos (by rw [PM.next_new, hnx])]
  rw [PM.next_new, hnx]
  generalize (me.new (.cells [.bool false, .nils, .nils] 0 false 36)).new (.cells [.bool false, .nils, .nils] 0 false 36) = mA at *
  apply WD_ld (hn := rfl)
  exact lk
  · exact ty36
  · exact ld3 ty36.symm g0
  apply WD_ca (hn := rfl)
  · exact evs1 lk
  · exact hv2 mA
  · exact rfl
  apply WD_ld (hn := rfl)
  exact lk
  · exact ty36
  · exact ld3 ty36.symm g1
  apply WD_ca (hn := rfl)
  · exact evs1 lk
  · exact hw2 mA
  · exact rfl
  apply WD_al (hn := rfl)
  apply WD_al (hn := rfl)
  apply WD_st
  exact lk
  exact lk
  · exact st3 g3 rfl (Lim.cell k1) (Lim.cell k2)
  apply WD_st
  exact lk
  exact lk
  · exact st3 (x := .bool false) (y := .nils) (z := .nils) (et := 36) (by rw [PM.get_upd, if_neg (by decide)]; exact g4) rfl (Lim.cell l1) (Lim.cell l2)
  refine WD_nil ⟨?_, ?_⟩
  · have s1 := sameRead_me g1 c1 c2
    have s0 := sameRead_me g0 a1 a2
    simp only [trOk, okAll, okOne, okPair, s1, s0, Bool.or_true, Bool.true_and, Bool.and_true]
    rfl
  have b3 : ((mA.upd 3 (.cells [.bool (decide (r.num < 0)), pn, pd] 0 false 36)).upd 4 (.cells [.bool (decide (t.num < 0)), pn', pd'] 0 false 36)).get 3 = some (.cells [.bool (decide (r.num < 0)), pn, pd] 0 false 36) := by rw [PM.get_upd, if_neg (by decide), PM.get_upd, if_pos rfl]
  have b4 : ((mA.upd 3 (.cells [.bool (decide (r.num < 0)), pn, pd] 0 false 36)).upd 4 (.cells [.bool (decide (t.num < 0)), pn', pd'] 0 false 36)).get 4 = some (.cells [.bool (decide (t.num < 0)), pn', pd'] 0 false 36) := by rw [PM.get_upd, if_pos rfl]
  have b5 : ((mA.upd 3 (.cells [.bool (decide (r.num < 0)), pn, pd] 0 false 36)).upd 4 (.cells [.bool (decide (t.num < 0)), pn', pd'] 0 false 36)).get 2 = some (.cells [.bool false, .nils, .nils] 0 false 36) := by rw [PM.get_upd, if_neg (by decide), PM.get_upd, if_neg (by decide)]; exact g2
  generalize (mA.upd 3 (.cells [.bool (decide (r.num < 0)), pn, pd] 0 false 36)).upd 4 (.cells [.bool (decide (t.num < 0)), pn', pd'] 0 false 36) = me2 at *
  show WC E _ _ _; repeat first | refine WC_seq ?_ | refine WC_block ?_ | refine WC_region ?_
  (apply WC_draw; (focus exact rfl))
  apply WD_fa (hn := rfl)
  exact lk
  · exact rfl
  apply WD_ld (hn := rfl)
  exact lk
  · exact ty34'
  · exact ld3_1 rfl rfl rfl b3
  apply WD_fa (hn := rfl)
  exact lk
  · exact rfl
  apply WD_ld (hn := rfl)
  exact lk
  · exact ty34'
  · exact ld3_2 rfl rfl rfl b4
  apply WD_pu (hn := rfl)
  · apply evs2
    exact lk
    exact lk
  · exact x2 me2
  · exact pure_of rfl rfl (flats2 (Lim.flat k1) (Lim.flat l2))
  apply WD_fa (hn := rfl)
  exact lk
  · exact rfl
  apply WD_ld (hn := rfl)
  exact lk
  · exact ty34'
  · exact ld3_1 rfl rfl rfl b4
  apply WD_fa (hn := rfl)
  exact lk
  · exact rfl
  apply WD_ld (hn := rfl)
  exact lk
  · exact ty34'
  · exact ld3_2 rfl rfl rfl b3
  apply WD_pu (hn := rfl)
  · apply evs2
    exact lk
    exact lk
  · exact x4 me2
  · exact pure_of rfl rfl (flats2 (Lim.flat l1) (Lim.flat k2))
  (apply WD_as (hn := rfl); exact lk; apply WD_as (hn := rfl); exact lk)
  refine WD_nil ⟨rfl, ?_⟩
  show WC E _ _ _
  repeat first | refine WC_seq ?_ | refine WC_block ?_ | refine WC_region ?_
  apply WO_fa (hn := rfl)
  exact lk
  · exact rfl
  apply WO_ld (hn := rfl)
  exact lk
  · exact ld3_2 rfl rfl rfl b3
  apply WO_fa (hn := rfl)
  exact lk
  · exact rfl
  apply WO_ld (hn := rfl)
  exact lk
  · exact ld3_2 rfl rfl rfl b4
  apply WO_ca (hn := rfl) qd me2
  · apply evs2
    exact lk
    exact lk
  · exact x6 me2
  (apply WO_as (hn := rfl); exact lk)
  refine WO_nil ?_; show WC E _ _ _; repeat first | refine WC_seq ?_ | refine WC_block ?_ | refine WC_region ?_
  apply WO_fa (hn := rfl)
  exact lk
  · exact rfl
  apply WO_ld (hn := rfl)
  exact lk
  · exact ld3_0 rfl rfl rfl b3
  apply WO_fa (hn := rfl)
  exact lk
  · exact rfl
  apply WO_ld (hn := rfl)
  exact lk
  · exact ld3_0 rfl rfl rfl b4
  apply WO_bin (hn := rfl)
  exact lk
  exact lk
  · exact b_eqlB ty4
  refine WO_nil ?_
  show WC E _ _ _
  repeat first | refine WC_seq ?_ | refine WC_block ?_ | refine WC_region ?_
  apply WC_cond; (focus (apply condOf_t; (focus (first | (apply evo_t; (repeat (first | exact get_hit | assumption | refine get_miss rfl ?_ | fail)); done) | (exact rfl) | fail))))
  · intro hc
    have hc := same (of_decide_eq_true hc)
    obtain ⟨q, e5, e6⟩ := r2_Of (s := decide (r.num < 0)) y1 x5 (ok_lm _) (ok_lm _) (by have := lm_add_len m1 m2; omega) (by omega)
    rw [nv_lm, nv_lm, hc] at e5
    have e5' := e5
    obtain ⟨qa, qb, rfl, f1, f0, f2⟩ := e5'
    repeat first | refine WC_seq ?_ | refine WC_block ?_ | refine WC_region ?_
    (apply WC_draw; (focus exact rfl))
    apply WD_fa (hn := rfl)
    exact lk
    · exact rfl
    apply WD_ld (hn := rfl)
    exact lk
    · exact ty4
    · exact ld3_0 rfl rfl rfl b3
    (apply WD_mv (hn := rfl); exact lk; apply WD_mv (hn := rfl); exact lk)
    apply WD_pu (hn := rfl)
    · apply evs2
      exact lk
      exact lk
    · exact y2 me2
    · exact pure_of rfl rfl (flats2 (Lim.flat x1) (Lim.flat x3))
    (apply WD_mv (hn := rfl); exact lk)
    apply WD_pu (hn := rfl)
    · apply evs3
      exact lk
      exact lk
      exact lk
    · exact e6 me2
    · exact pure_of rfl rfl (flats3 rfl (Lim.flat y1) (Lim.flat x5))
    apply WD_st
    exact lk
    exact lk
    · exact st3 b5 rfl (Lim.cell f1) (Lim.cell f2)
    refine WD_nil ⟨rfl, ?_⟩
    show WC E _ _ _
    refine WC_ret ?_
    show BodyQ _ _ _ _ _
    exact fin3c rfl ex_ret rfl gk (by rw [PM.get_upd, if_pos rfl]) ⟨_, _, reify_a3 rfl (Lim.flat f1) (Lim.flat f2), e5⟩
  · intro hc
    have hne : decide (r.num < 0) ≠ decide (t.num < 0) := of_decide_eq_false hc
    refine WC_skip ?_
    show WC E _ _ _; repeat first | refine WC_seq ?_ | refine WC_block ?_ | refine WC_region ?_
    (apply WO_mv (hn := rfl); exact lk; apply WO_mv (hn := rfl); exact lk)
    apply WO_ca (hn := rfl) (.int .i64 (cmpI N M)) me2
    · apply evs2
      exact lk
      exact lk
    · exact cmp me2
    (apply WO_bin (hn := rfl); exact lk; exact lk; exact bk)
    refine WO_nil ?_; show WC E _ _ _; repeat first | refine WC_seq ?_ | refine WC_block ?_ | refine WC_region ?_
    apply WC_cond; (focus (apply condOf_t; (focus (first | (apply evo_t; (repeat (first | exact get_hit | assumption | refine get_miss rfl ?_ | fail)); done) | (exact rfl) | fail))))
    · intro hge
      have hle : M ≤ N := by
        have := of_decide_eq_true hge
        unfold cmpI at this
        split at this
        · exact absurd this (by decide)
        · omega
      obtain ⟨p1, z1, z2⟩ := sub1 hle
      obtain ⟨q, e5, e6⟩ := r2_Of (s := decide (r.num < 0)) z1 x5 (ok_lm _) (ok_lm _) (by have := lm_mono (show N - M ≤ N by omega); omega) (by omega)
      rw [nv_lm, nv_lm, left hne hle] at e5
      have e5' := e5
      obtain ⟨qa, qb, rfl, f1, f0, f2⟩ := e5'
      show WC E _ _ _; repeat first | refine WC_seq ?_ | refine WC_block ?_ | refine WC_region ?_
      (apply WO_mv (hn := rfl); exact lk; apply WO_mv (hn := rfl); exact lk)
      apply WO_ca (hn := rfl) (.tup [p1, .bool true]) me2
      · apply evs2
        exact lk
        exact lk
      · exact z2 me2
      (apply WO_mv (hn := rfl); exact lk; apply WO_ex (hn := rfl); exact lk; exact rfl; apply WO_ex (hn := rfl); exact lk; exact rfl; apply WO_as (hn := rfl); exact lk; apply WO_as (hn := rfl); exact lk)
      refine WO_nil ?_; show WC E _ _ _; repeat first | refine WC_seq ?_ | refine WC_block ?_ | refine WC_region ?_
      apply WO_fa (hn := rfl)
      exact lk
      · exact rfl
      apply WO_ld (hn := rfl)
      exact lk
      · exact ld3_0 rfl rfl rfl b3
      (apply WO_mv (hn := rfl); exact lk; apply WO_mv (hn := rfl); exact lk)
      apply WO_ca (hn := rfl) (.agg [.bool (decide ((r + t).num < 0)), qa, qb]) me2
      · apply evs3
        exact lk
        exact lk
        exact lk
      · exact e6 me2
      apply WO_st
      exact lk
      exact lk
      · exact st3 b5 rfl (Lim.cell f1) (Lim.cell f2)
      refine WO_nil ?_
      show WC E _ _ _
      refine WC_ret ?_
      show BodyQ _ _ _ _ _
      exact fin3c rfl ex_ret rfl gk (by rw [PM.get_upd, if_pos rfl]) ⟨_, _, reify_a3 rfl (Lim.flat f1) (Lim.flat f2), e5⟩
    · intro hge
      have hlt : N < M := by
        have := of_decide_eq_false hge
        unfold cmpI at this
        split at this
        · omega
        · split at this <;> exact absurd (by decide) this
      obtain ⟨p1, z1, z2⟩ := sub2 (by omega)
      obtain ⟨q, e5, e6⟩ := r2_Of (s := decide (t.num < 0)) z1 x5 (ok_lm _) (ok_lm _) (by have := lm_mono (show M - N ≤ M by omega); omega) (by omega)
      rw [nv_lm, nv_lm, right hne hlt] at e5
      have e5' := e5
      obtain ⟨qa, qb, rfl, f1, f0, f2⟩ := e5'
      refine WC_skip ?_
      show WC E _ _ _; repeat first | refine WC_seq ?_ | refine WC_block ?_ | refine WC_region ?_
      (apply WO_mv (hn := rfl); exact lk; apply WO_mv (hn := rfl); exact lk)
      apply WO_ca (hn := rfl) (.tup [p1, .bool true]) me2
      · apply evs2
        exact lk
        exact lk
      · exact z2 me2
      (apply WO_mv (hn := rfl); exact lk; apply WO_ex (hn := rfl); exact lk; exact rfl; apply WO_ex (hn := rfl); exact lk; exact rfl; apply WO_as (hn := rfl); exact lk; apply WO_as (hn := rfl); exact lk)
      refine WO_nil ?_; show WC E _ _ _; repeat first | refine WC_seq ?_ | refine WC_block ?_ | refine WC_region ?_
      apply WO_fa (hn := rfl)
      exact lk
      · exact rfl
      apply WO_ld (hn := rfl)
      exact lk
      · exact ld3_0 rfl rfl rfl b4
      (apply WO_mv (hn := rfl); exact lk; apply WO_mv (hn := rfl); exact lk)
      apply WO_ca (hn := rfl) (.agg [.bool (decide ((r + t).num < 0)), qa, qb]) me2
      · apply evs3
        exact lk
        exact lk
        exact lk
      · exact e6 me2
      apply WO_st
      exact lk
      exact lk
      · exact st3 b5 rfl (Lim.cell f1) (Lim.cell f2)
      refine WO_nil ?_
      show WC E _ _ _
      refine WC_ret ?_
      show BodyQ _ _ _ _ _
      exact fin3c rfl ex_ret rfl gk (by rw [PM.get_upd, if_pos rfl]) ⟨_, _, reify_a3 rfl (Lim.flat f1) (Lim.flat f2), e5⟩
end Go.Ab.T
/- The document's answer: ref2.Int of a natural. -/
open Go Go.Ab
namespace Go.Ab.T
set_option maxRecDepth 10000
set_option maxHeartbeats 2000000
set_option linter.unusedSimpArgs false
attribute [local irreducible] Tr.get Tr.set

theorem r2_Int {n : Nat} (hn : n < 4294967296) : ∃ q, RatP (n : Rat) q ∧ ∀ m, Ev E 4 [.int .i64 (n : Int)] m q m := by
  obtain ⟨q0, h1, h2⟩ := r1_Of (n := n) (by omega)
  have hone : Lim [1] (.vsl [.int .u32 1] 1 (some 1)) := .inr ⟨some 1, rfl⟩
  have hln : (lm n).length ≤ 1 := lm_length.2 (by rw [Nat.pow_one]; exact hn)
  obtain ⟨q, e5, e6⟩ := r2_Of (s := false) h1 hone (ok_lm _) (.cons (by decide) .nil) (by omega) (by decide)
  have hv : rq false (nv (lm n)) (nv [1]) = (n : Rat) := by
    rw [nv_lm]
    show mkRat (n : Int) 1 = _
    rw [Rat.mkRat_one]
    rfl
  rw [hv] at e5
  have e5' := e5
  obtain ⟨qa, qb, rfl, f1, f0, f2⟩ := e5'
  refine Ev_isoE rfl rfl rfl rfl (fn := Go.Proofs.Tryz.f4) rfl rfl rfl ?_
  show WC E _ ⟨Tr.leaf.set 0 _, 16, _, _⟩ _
  repeat first | refine WC_seq ?_ | refine WC_block ?_ | refine WC_region ?_
  apply WO_al (hn := rfl)
  · exact rfl
  rw [show PM.empty.next = 0 from rfl]
  have b0 : (PM.empty.new (.cells [.bool false, .nils, .nils] 0 false 36)).get 0 = some (.cells [.bool false, .nils, .nils] 0 false 36) := by
    rw [PM.get_new]; exact if_pos rfl
  generalize (PM.empty.new (.cells [.bool false, .nils, .nils] 0 false 36)) = me at *
  refine WO_nil ?_; show WC E _ _ _; repeat first | refine WC_seq ?_ | refine WC_block ?_ | refine WC_region ?_
  (apply WO_mv (hn := rfl); exact lk; apply WO_cv (hn := rfl); exact lk; exact rfl; exact rfl; exact ck; apply WO_as (hn := rfl); exact lk)
  refine WO_nil ?_; show WC E _ _ _; repeat first | refine WC_seq ?_ | refine WC_block ?_ | refine WC_region ?_
  (apply WO_mv (hn := rfl); exact lk; apply WO_bin (hn := rfl); exact lk; exact lk; exact bk)
  rw [show decide ((n : Int) < 0) = false from decide_eq_false (by omega)]
  refine WO_nil ?_; show WC E _ _ _; repeat first | refine WC_seq ?_ | refine WC_block ?_ | refine WC_region ?_
  apply WC_cond; (focus (apply condOf_t; (focus (first | (apply evo_t; (repeat (first | exact get_hit | assumption | refine get_miss rfl ?_ | fail)); done) | (exact rfl) | fail))))
  · intro hh
    cases hh
  · intro _
    refine WC_skip ?_
    show WC E _ _ _; repeat first | refine WC_seq ?_ | refine WC_block ?_ | refine WC_region ?_
    (apply WO_mv (hn := rfl); exact lk; apply WO_bin (hn := rfl); exact lk; exact lk; exact bk; apply WO_mv (hn := rfl); exact lk)
    rw [show decide ((n : Int) < 0) = false from decide_eq_false (by omega)]
    skip
    apply WO_ca (hn := rfl) q0 me
    · exact evs1 lk
    · exact h2 me
    apply WO_bs (hn := rfl)
    · apply evps1
      exact rfl
    · exact rfl
    apply WO_ca (hn := rfl) (.agg [.bool (decide ((n : Rat).num < 0)), qa, qb]) me
    · apply evs3
      exact lk
      exact lk
      exact lk
    · exact e6 me
    apply WO_st
    exact lk
    exact lk
    · exact st3 b0 rfl (Lim.cell f1) (Lim.cell f2)
    refine WO_nil ?_
    show WC E _ _ _
    refine WC_ret ?_
    show BodyQ _ _ _ _ _
    exact fin3c rfl ex_ret rfl gk (by rw [PM.get_upd, if_pos rfl]) ⟨_, _, reify_a3 rfl (Lim.flat f1) (Lim.flat f2), e5⟩
end Go.Ab.T
