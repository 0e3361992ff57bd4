/- Naturals: Shift, division, Gcd; rationals: Of, Norm, Zero, Large, Neg answer right. -/
import Derived.Test.YtkidolggnmomcaaGreatDoorBa
set_option linter.unusedVariables false
set_option linter.unusedSimpArgs false
/- nat.guess, bits.Len32, LeadingZeros32. -/
open Go Go.Ab
namespace Go.Ab.T
set_option maxRecDepth 10000
set_option maxHeartbeats 1000000
set_option linter.unusedSimpArgs false
attribute [local irreducible] Tr.get Tr.set

theorem nat_guess {hi mid low b1 b2 u : Nat} (hU : hi * 4294967296 + mid = u) (h1 : hi < 4294967296) (h2 : mid < 4294967296) (h3 : low < 4294967296) (h4 : b1 < 4294967296) (h5 : b2 < 4294967296) (hn : 2147483648 ≤ b1) (hu : u ≤ 4294967296 * b1 + 4294967295) :
    ∃ x, x ≤ 4294967296 ∧ x * (b1 * 4294967296 + b2) ≤ u * 4294967296 + low ∧ (∀ t, t < 4294967296 → t * (b1 * 4294967296 + b2) ≤ u * 4294967296 + low → t ≤ x) ∧
      ∀ m, Ev E 285 [.int .u32 (hi : Int), .int .u32 (mid : Int), .int .u32 (low : Int), .int .u32 (b1 : Int), .int .u32 (b2 : Int)] m (.int .u64 (x : Int)) m := by
  suffices hh : ∃ v, (∃ x, v = .int .u64 ((x : Nat) : Int) ∧ x ≤ 4294967296 ∧ x * (b1 * 4294967296 + b2) ≤ u * 4294967296 + low ∧ (∀ t, t < 4294967296 → t * (b1 * 4294967296 + b2) ≤ u * 4294967296 + low → t ≤ x)) ∧ ∀ m, Ev E 285 [.int .u32 (hi : Int), .int .u32 (mid : Int), .int .u32 (low : Int), .int .u32 (b1 : Int), .int .u32 (b2 : Int)] m v m by
    obtain ⟨v, ⟨x, rfl, k1, k2, k3⟩, k4⟩ := hh
    exact ⟨x, k1, k2, k3, k4⟩
  refine Ev_isoE rfl rfl rfl rfl (fn := Go.Proofs.Tryz.f285) rfl rfl rfl ?_
  show WC E _ ⟨((((Tr.leaf.set 0 _).set 1 _).set 2 _).set 3 _).set 4 _, 53, _, _⟩ _
  have hu64 : u < 18446744073709551616 := by omega
  have hhh : hi * 2 ^ 32 % 18446744073709551616 = hi * 2 ^ 32 := Nat.mod_eq_of_lt (by omega)
  -- the end
  have fin : ∀ {q : Nat} {s : St}, s.df = [] → s.tm.get 10 = some (.int .u64 (q : Int)) → q ≤ 4294967296 → q * (b1 * 4294967296 + b2) ≤ u * 4294967296 + low → (∀ t, t < 4294967296 → t * (b1 * 4294967296 + b2) ≤ u * 4294967296 + low → t ≤ q) →
      BodyQ E Go.Proofs.Tryz.f285 (fun v m => ∃ w m2, reify 12 m v = some (w, m2) ∧ ∃ x, w = .int .u64 ((x : Nat) : Int) ∧ x ≤ 4294967296 ∧ x * (b1 * 4294967296 + b2) ≤ u * 4294967296 + low ∧ (∀ t, t < 4294967296 → t * (b1 * 4294967296 + b2) ≤ u * 4294967296 + low → t ≤ x)) .ret s := fun {q s} hd h10 k1 k2 k3 =>
    fin1 rfl ex_ret hd h10 ⟨_, s.me, rfl, q, rfl, k1, k2, k3⟩
  repeat first | refine WC_seq ?_ | refine WC_block ?_ | refine WC_region ?_
  (apply WO_as (hn := rfl); exact lk)
  refine WO_nil ?_; show WC E _ _ _; repeat first | refine WC_seq ?_ | refine WC_block ?_ | refine WC_region ?_
  (apply WO_mv (hn := rfl); exact lk; apply WO_cv (hn := rfl); exact lk; exact rfl; exact rfl; exact ck; apply WO_bin (hn := rfl); exact lk; exact lk; exact bk; apply WO_mv (hn := rfl); exact lk; apply WO_cv (hn := rfl); exact lk; exact rfl; exact rfl; exact ck)
  apply WO_bin (hn := rfl)
  exact lk
  exact lk
  · have e := b_orU (K := E.ty 65) (cst := false) (a := hi * 2 ^ 32) (b := mid) (by omega) (by omega)
    rw [or_hi h2, hU] at e
    rw [hhh]
    exact e
  (apply WO_as (hn := rfl); exact lk)
  refine WO_nil ?_; show WC E _ _ _; repeat first | refine WC_seq ?_ | refine WC_block ?_ | refine WC_region ?_
  (apply WC_draw; (focus exact rfl))
  (apply WD_mv (hn := rfl); exact lk; apply WD_mv (hn := rfl); exact lk; apply WD_cv (hn := rfl); exact lk; exact rfl; exact rfl; exact ck)
  apply WD_bin (hn := rfl)
  exact lk
  exact lk
  · exact b_quoU hu64 (by omega)
  (apply WD_mv (hn := rfl); exact lk; apply WD_mv (hn := rfl); exact lk; apply WD_cv (hn := rfl); exact lk; exact rfl; exact rfl; exact ck)
  apply WD_bin (hn := rfl)
  exact lk
  exact lk
  · exact b_remU (by omega)
  (apply WD_as (hn := rfl); exact lk; apply WD_as (hn := rfl); exact lk)
  refine WD_nil ⟨rfl, ?_⟩; show WC E _ _ _; repeat first | refine WC_seq ?_ | refine WC_block ?_ | refine WC_region ?_
  have hq0 : u / b1 ≤ 4294967297 := by
    rw [← Nat.lt_succ_iff, Nat.div_lt_iff_lt_mul (by omega)]
    show u < 4294967298 * b1
    omega
  refine WC_loop (fun j s => ∃ (tm : Tr PV) (q r : Nat), s = ⟨tm, 53, .empty, []⟩ ∧ j = q ∧ tm.get 2 = some (.int .u32 (low : Int)) ∧ tm.get 3 = some (.int .u32 (b1 : Int)) ∧ tm.get 4 = some (.int .u32 (b2 : Int)) ∧ tm.get 12 = some (.int .u64 (q : Int)) ∧ tm.get 13 = some (.int .u64 (r : Int)) ∧
    q * b1 + r = u ∧ r < 4294967296 ∧ q ≤ 4294967297 ∧ (∀ t, t < 4294967296 → t * (b1 * 4294967296 + b2) ≤ u * 4294967296 + low → t ≤ q)) (u / b1)
    ⟨_, u / b1, u % b1, rfl, rfl, gk, gk, gk, gk, gk, by rw [Nat.mul_comm]; exact Nat.div_add_mod u b1, Nat.lt_trans (Nat.mod_lt _ (by omega)) h4, hq0, fun t _ h => kn_init h3 (by omega) h⟩ ?_
  rintro j s ⟨tm, q, r, rfl, hjq, g2, g3, g4, g12, g13, hqr, hr, hq, hP⟩
  have hqb : q * b2 < 18446744073709551616 := by
    have := Nat.mul_le_mul hq (show b2 ≤ 4294967295 by omega)
    omega
  have hrs : r * 2 ^ 32 % 18446744073709551616 = r * 2 ^ 32 := Nat.mod_eq_of_lt (by omega)
  -- one less
  refine WC.mono (Q := fun xx s' => (xx = .exit 0 ∧ ∃ (tm : Tr PV) (q' : Nat), s' = ⟨tm, 53, .empty, []⟩ ∧ tm.get 12 = some (.int .u64 (q' : Int)) ∧ q' ≤ 4294967296 ∧ q' * (b1 * 4294967296 + b2) ≤ u * 4294967296 + low ∧ (∀ t, t < 4294967296 → t * (b1 * 4294967296 + b2) ≤ u * 4294967296 + low → t ≤ q')) ∨
    (xx = .nrm ∧ ∃ (tm : Tr PV) (q r : Nat), q < j ∧ s' = ⟨tm, 53, .empty, []⟩ ∧ tm.get 2 = some (.int .u32 (low : Int)) ∧ tm.get 3 = some (.int .u32 (b1 : Int)) ∧ tm.get 4 = some (.int .u32 (b2 : Int)) ∧ tm.get 12 = some (.int .u64 (q : Int)) ∧ tm.get 13 = some (.int .u64 (r : Int)) ∧
    q * b1 + r = u ∧ r < 4294967296 ∧ q ≤ 4294967297 ∧ (∀ t, t < 4294967296 → t * (b1 * 4294967296 + b2) ≤ u * 4294967296 + low → t ≤ q))) ?_ ?_
  · refine WC_seq ?_
    refine WC.mono (Q := fun xx s' => (xx = .exit 0 ∧ q < 4294967296 ∧ q * b2 ≤ r * 4294967296 + low ∧ ∃ (tm : Tr PV), s' = ⟨tm, 53, .empty, []⟩ ∧ tm.get 12 = some (.int .u64 (q : Int))) ∨
      (xx = .nrm ∧ (4294967296 ≤ q ∨ r * 4294967296 + low < q * b2) ∧ ∃ (tm : Tr PV), s' = ⟨tm, 53, .empty, []⟩ ∧ tm.get 2 = some (.int .u32 (low : Int)) ∧ tm.get 3 = some (.int .u32 (b1 : Int)) ∧ tm.get 4 = some (.int .u32 (b2 : Int)) ∧ tm.get 12 = some (.int .u64 (q : Int)) ∧ tm.get 13 = some (.int .u64 (r : Int)))) ?_ ?_
    · clear hU hu hq0 hhh hu64 fin hqr hP hjq
      repeat first | refine WC_seq ?_ | refine WC_block ?_ | refine WC_region ?_
      by_cases hqB : 4294967296 ≤ q
      · (apply WO_mv (hn := rfl); exact lk; apply WO_bin (hn := rfl); exact lk; exact lk; exact bk; apply WO_bin (hn := rfl); exact lk; exact lk; exact bk; apply WO_mv (hn := rfl); exact lk; apply WO_gf; exact uk; exact rfl; apply WO_gf; exact uk; exact rfl; apply WO_gf; exact uk; exact rfl; apply WO_gf; exact uk; exact rfl; apply WO_gf; exact uk; exact rfl; apply WO_gf; exact uk; exact rfl; apply WO_gf; exact uk; exact rfl; apply WO_gf; exact uk; exact rfl; apply WO_gf; exact uk; exact rfl; apply WO_gf; exact uk; exact rfl)
        apply WO_pkt (hn := rfl)
        exact lk
        · simp only [Bool.not_eq_true', decide_eq_false_iff_not]; omega
        exact lk
        refine WO_nil ?_
        show WC E _ _ _
        apply WC_true
        · apply condOf_t
          exact lk
        exact WC_skip (.inr ⟨rfl, .inl hqB, _, rfl, gk, gk, gk, gk, gk⟩)
      · (apply WO_mv (hn := rfl); exact lk; apply WO_bin (hn := rfl); exact lk; exact lk; exact bk; apply WO_bin (hn := rfl); exact lk; exact lk; exact bk; apply WO_mv (hn := rfl); exact lk; apply WO_gt; exact uk; apply WO_mv (hn := rfl); exact lk; apply WO_gt; exact uk; apply WO_mv (hn := rfl); exact lk; apply WO_gt; exact uk; apply WO_cv (hn := rfl); exact lk; exact rfl; exact rfl; exact ck; apply WO_gt; exact uk; apply WO_bin (hn := rfl); exact lk; exact lk; exact bk; apply WO_gt; exact uk; apply WO_mv (hn := rfl); exact lk; apply WO_gt; exact uk; apply WO_bin (hn := rfl); exact lk; exact lk; exact bk; apply WO_gt; exact uk; apply WO_mv (hn := rfl); exact lk; apply WO_gt; exact uk; apply WO_cv (hn := rfl); exact lk; exact rfl; exact rfl; exact ck; apply WO_gt; exact uk)
        apply WO_bin (hn := rfl)
        exact lk
        exact lk
        · have e := b_orU (K := E.ty 65) (cst := false) (a := r * 2 ^ 32) (b := low) (by omega) (by omega)
          rw [or_hi h3] at e
          rw [hrs]
          exact e
        (apply WO_gt; exact uk; apply WO_bin (hn := rfl); exact lk; exact lk; exact bk)
        apply WO_pkf (hn := rfl)
        exact lk
        · simp only [Bool.not_eq_false', decide_eq_true_eq]; omega
        exact lk
        refine WO_nil ?_
        show WC E _ _ _
        apply WC_cond; (focus (apply condOf_t; (focus (first | (apply evo_t; (repeat (first | exact get_hit | assumption | refine get_miss rfl ?_ | fail)); done) | (exact rfl) | fail))))
        · intro hc
          have hc : r * 4294967296 + low < q * b2 := by simp only [decide_eq_true_eq] at hc; omega
          exact WC_skip (.inr ⟨rfl, .inr hc, _, rfl, gk, gk, gk, gk, gk⟩)
        · intro hc
          have hc : q * b2 ≤ r * 4294967296 + low := by simp only [decide_eq_false_iff_not] at hc; omega
          exact WC_exit (.inl ⟨rfl, by omega, hc, _, rfl, gk⟩)
    · rintro xx s' (⟨rfl, k1, k2, tm, rfl, g12⟩ | ⟨rfl, hc, tm, rfl, g2, g3, g4, g12, g13⟩)
      · exact .inl ⟨rfl, tm, q, rfl, g12, by omega, kn_ok hqr k2, hP⟩
      · have hP' : ∀ t, t < 4294967296 → t * (b1 * 4294967296 + b2) ≤ u * 4294967296 + low → t ≤ q - 1 := fun t ht h => kn_dec hqr ht h (hP t ht h) hc
        have hq1 : 0 < q := by
          rcases hc with hc | hc
          · omega
          · refine Nat.pos_of_ne_zero fun e => ?_
            subst e
            omega
        have hst := kn_step hqr hq1
        clear hU hu hq0 hhh hu64 fin hqr hP hqb hrs hc
        show WC E _ _ _; repeat first | refine WC_seq ?_ | refine WC_block ?_ | refine WC_region ?_
        (apply WO_mv (hn := rfl); exact lk; apply WO_bin (hn := rfl); exact lk; exact lk; exact bk; apply WO_as (hn := rfl); exact lk)
        refine WO_nil ?_; show WC E _ _ _; repeat first | refine WC_seq ?_ | refine WC_block ?_ | refine WC_region ?_
        (apply WO_mv (hn := rfl); exact lk; apply WO_mv (hn := rfl); exact lk; apply WO_cv (hn := rfl); exact lk; exact rfl; exact rfl; exact ck; apply WO_bin (hn := rfl); exact lk; exact lk; exact bk; apply WO_as (hn := rfl); exact lk)
        refine WO_nil ?_; show WC E _ _ _; repeat first | refine WC_seq ?_ | refine WC_block ?_ | refine WC_region ?_
        (apply WO_mv (hn := rfl); exact lk; apply WO_bin (hn := rfl); exact lk; exact lk; exact bk; apply WO_bin (hn := rfl); exact lk; exact lk; exact bk)
        refine WO_nil ?_
        show WC E _ _ _
        apply WC_cond; (focus (apply condOf_t; (focus (first | (apply evo_t; (repeat (first | exact get_hit | assumption | refine get_miss rfl ?_ | fail)); done) | (exact rfl) | fail))))
        · intro hb
          have hb : 4294967296 ≤ r + b1 := by
            simp at hb; omega
          refine WC_exit ?_
          refine .inl ⟨rfl, _, q - 1, rfl, gk, by omega, kn_ok hst ?_, hP'⟩
          have := Nat.mul_le_mul (show q - 1 ≤ 4294967296 by omega) (show b2 ≤ 4294967295 by omega)
          omega
        · intro hb
          have hb : r + b1 < 4294967296 := by
            simp at hb; omega
          refine WC_skip ?_
          exact .inr ⟨rfl, _, q - 1, r + b1, by omega, rfl, gk, gk, gk, gk, gk, hst, hb, by omega, hP'⟩
  · rintro xx s' (⟨rfl, tm, q', rfl, g12, k1, k2, k3⟩ | ⟨rfl, tm, q, r, hlt, rfl, g2, g3, g4, g12, g13, k1, k2, k3, k4⟩)
    · show WC E _ _ _; repeat first | refine WC_seq ?_ | refine WC_block ?_ | refine WC_region ?_
      (apply WO_mv (hn := rfl); exact lk; apply WO_as (hn := rfl); exact lk)
      refine WO_nil ?_
      show WC E _ _ _
      refine WC_ret ?_
      show BodyQ _ _ _ _ _
      exact fin rfl get_hit k1 k2 k3
    · exact ⟨q, hlt, tm, q, r, rfl, rfl, g2, g3, g4, g12, g13, k1, k2, k3, k4⟩

theorem bits_Len32 {x : Nat} (hx : x < 4294967296) (h0 : x ≠ 0) : ∃ l, l ≤ 32 ∧ 1 ≤ l ∧ 2 ^ (l - 1) ≤ x ∧ x < 2 ^ l ∧ ∀ m, Ev E 327 [.int .u32 (x : Int)] m (.int .i64 ((l : Nat) : Int)) m := by
  suffices hh : ∃ v, (∃ l, v = .int .i64 ((l : Nat) : Int) ∧ l ≤ 32 ∧ 1 ≤ l ∧ 2 ^ (l - 1) ≤ x ∧ x < 2 ^ l) ∧ ∀ m, Ev E 327 [.int .u32 (x : Int)] m v m by
    obtain ⟨v, ⟨l, rfl, k1, k2, k3, k4⟩, k5⟩ := hh
    exact ⟨l, k1, k2, k3, k4, k5⟩
  refine Ev_isoE rfl rfl rfl rfl (fn := Go.Proofs.Tryz.f327) rfl rfl rfl ?_
  show WC E _ ⟨Tr.leaf.set 0 _, 19, _, _⟩ _
  repeat first | refine WC_seq ?_ | refine WC_block ?_ | refine WC_region ?_
  (apply WO_as (hn := rfl); exact lk)
  refine WO_nil ?_; show WC E _ _ _; repeat first | refine WC_seq ?_ | refine WC_block ?_ | refine WC_region ?_
  (apply WO_mv (hn := rfl); exact lk; apply WO_bin (hn := rfl); exact lk; exact lk; exact bk)
  refine WO_nil ?_; show WC E _ _ _; repeat first | refine WC_seq ?_ | refine WC_block ?_ | refine WC_region ?_
  refine WC.mono (Q := fun xx s' => xx = .nrm ∧ ∃ (tm : Tr PV) (s y : Nat), s' = ⟨tm, 19, .empty, []⟩ ∧ tm.get 0 = some (.int .u32 (y : Int)) ∧ tm.get 2 = some (.int .i64 (s : Int)) ∧ y = x / 2 ^ s ∧ y < 65536 ∧ s ≤ 16 ∧ y ≠ 0) ?_ ?_
  · apply WC_cond; (focus (apply condOf_t; (focus (first | (apply evo_t; (repeat (first | exact get_hit | assumption | refine get_miss rfl ?_ | fail)); done) | (exact rfl) | fail))))
    · intro hc
      have hc : 65536 ≤ x := by simp at hc; omega
      repeat first | refine WC_seq ?_ | refine WC_block ?_ | refine WC_region ?_
      (apply WO_mv (hn := rfl); exact lk; apply WO_bin (hn := rfl); exact lk; exact lk; exact bk; apply WO_as (hn := rfl); exact lk)
      refine WO_nil ?_; show WC E _ _ _; repeat first | refine WC_seq ?_ | refine WC_block ?_ | refine WC_region ?_
      (apply WO_as (hn := rfl); exact lk)
      exact WO_nil ⟨rfl, _, 16, x / 2 ^ 16, rfl, gk, gk, rfl, by omega, by omega, by omega⟩
    · intro hc
      have hc : x < 65536 := by simp at hc; omega
      exact WC_skip ⟨rfl, _, 0, x, rfl, gk, gk, by simp, hc, by omega, h0⟩
  rintro _ _ ⟨rfl, tm, s, y, rfl, g0, g2, hy, hy2, hs, hy0⟩
  show WC E _ _ _; repeat first | refine WC_seq ?_ | refine WC_block ?_ | refine WC_region ?_
  (apply WO_mv (hn := rfl); exact lk; apply WO_bin (hn := rfl); exact lk; exact lk; exact bk)
  refine WO_nil ?_; show WC E _ _ _; repeat first | refine WC_seq ?_ | refine WC_block ?_ | refine WC_region ?_
  refine WC.mono (Q := fun xx s' => xx = .nrm ∧ ∃ (tm : Tr PV) (s y : Nat), s' = ⟨tm, 19, .empty, []⟩ ∧ tm.get 0 = some (.int .u32 (y : Int)) ∧ tm.get 2 = some (.int .i64 (s : Int)) ∧ y = x / 2 ^ s ∧ y < 256 ∧ s ≤ 24 ∧ y ≠ 0) ?_ ?_
  · apply WC_cond; (focus (apply condOf_t; (focus (first | (apply evo_t; (repeat (first | exact get_hit | assumption | refine get_miss rfl ?_ | fail)); done) | (exact rfl) | fail))))
    · intro hc
      have hc : 256 ≤ y := by simp at hc; omega
      repeat first | refine WC_seq ?_ | refine WC_block ?_ | refine WC_region ?_
      (apply WO_mv (hn := rfl); exact lk; apply WO_bin (hn := rfl); exact lk; exact lk; exact bk; apply WO_as (hn := rfl); exact lk)
      refine WO_nil ?_; show WC E _ _ _; repeat first | refine WC_seq ?_ | refine WC_block ?_ | refine WC_region ?_
      (apply WO_mv (hn := rfl); exact lk; apply WO_bin (hn := rfl); exact lk; exact lk; exact bk; apply WO_as (hn := rfl); exact lk)
      exact WO_nil ⟨rfl, _, s + 8, y / 2 ^ 8, rfl, gk, gk, by rw [hy, Nat.pow_add, Nat.div_div_eq_div_mul], by omega, by omega, by omega⟩
    · intro hc
      have hc : y < 256 := by simp at hc; omega
      exact WC_skip ⟨rfl, _, s, y, rfl, gk, gk, hy, hc, by omega, hy0⟩
  clear g0 g2 hy hy2 hs hy0
  rintro _ _ ⟨rfl, tm, s, y, rfl, g0, g2, hy, hy2, hs, hy0⟩
  obtain ⟨k1, k2, k3⟩ := bl_spec hy hy0
  have k4 := bl_le hy2
  have k5 : s + bl y ≤ 32 := by
    refine Nat.le_of_not_lt fun hh => ?_
    have := Nat.pow_le_pow_right (show 0 < 2 by decide) (show 32 ≤ s + bl y - 1 by omega)
    omega
  show WC E _ _ _; repeat first | refine WC_seq ?_ | refine WC_block ?_ | refine WC_region ?_
  (apply WO_mv (hn := rfl); exact lk; apply WO_mv (hn := rfl); exact lk; apply WO_cv (hn := rfl); exact lk; exact rfl; exact rfl; exact ck)
  rw [show y % 256 = y from Nat.mod_eq_of_lt hy2]
  apply WO_ix (hn := rfl)
  · exact rfl
  exact lk
  · exact ix_tab (show E.ty 9 = some ⟨.string, 1, some [.str []]⟩ from rfl) (by decide +kernel) hy2
  (apply WO_cv (hn := rfl); exact lk; exact rfl; exact rfl; exact ck; apply WO_bin (hn := rfl); exact lk; exact lk; exact bk; apply WO_as (hn := rfl); exact lk)
  refine WO_nil ?_
  show WC E _ _ _
  refine WC_ret ?_
  exact fin1 rfl ex_ret rfl get_hit ⟨_, PM.empty, rfl, s + bl y, rfl, k5, by omega, k1, k2⟩

theorem bits_LeadingZeros32 {x : Nat} (hx : x < 4294967296) (h0 : x ≠ 0) : ∃ k, k ≤ 31 ∧ 2147483648 ≤ x * 2 ^ k ∧ x * 2 ^ k < 4294967296 ∧ ∀ m, Ev E 283 [.int .u32 (x : Int)] m (.int .i64 ((k : Nat) : Int)) m := by
  obtain ⟨l, k1, k2, k3, k4, k5⟩ := bits_Len32 hx h0
  refine ⟨32 - l, by omega, ?_, ?_, fun m => ?_⟩
  · have := Nat.mul_le_mul_right (2 ^ (32 - l)) k3
    rw [← Nat.pow_add, show l - 1 + (32 - l) = 31 by omega] at this
    exact this
  · have := Nat.mul_lt_mul_of_pos_right k4 (show 0 < 2 ^ (32 - l) from Nat.pow_pos (by decide))
    rw [← Nat.pow_add, show l + (32 - l) = 32 by omega] at this
    exact this
  · refine Ev_iso rfl rfl rfl rfl (fn := Go.Proofs.Tryz.f283) rfl rfl rfl ?_ m
    show WC E _ ⟨Tr.leaf.set 0 _, 6, _, _⟩ _
    repeat first | refine WC_seq ?_ | refine WC_block ?_ | refine WC_region ?_
    (apply WO_as (hn := rfl); exact lk)
    refine WO_nil ?_; show WC E _ _ _; repeat first | refine WC_seq ?_ | refine WC_block ?_ | refine WC_region ?_
    (apply WO_mv (hn := rfl); exact lk)
    apply WO_ca (hn := rfl) (.int .i64 (l : Int)) PM.empty
    · exact evs1 lk
    · exact k5 _
    (apply WO_bin (hn := rfl); exact lk; exact lk; exact bk; apply WO_as (hn := rfl); exact lk)
    refine WO_nil ?_
    show WC E _ _ _
    refine WC_ret ?_
    refine fin1 rfl ex_ret rfl get_hit ⟨PM.empty, ?_⟩
    rw [show (32 : Int) - (l : Int) = ((32 - l : Nat) : Int) by omega]
    rfl
end Go.Ab.T
/- nat.takes. -/
open Go Go.Ab
namespace Go.Ab.T
set_option maxRecDepth 10000
set_option maxHeartbeats 1000000
set_option linter.unusedSimpArgs false
attribute [local irreducible] Tr.get Tr.set

theorem nat_takes {pre w post d : List Nat} {q bu bd : Nat} {m : PM} (hbu : m.get bu = some (.cells (cu (pre ++ (w ++ post))) 0 false 68)) (hbd : m.get bd = some (.cells (cu d) 0 false 68)) (hne : bd ≠ bu) (hw : w.length = d.length + 1)
    (how : Ok w) (hod : Ok d) (hq : q ≤ 4294967296) (h1 : q * nv d ≤ nv w + nv d) (h2 : nv w < (q + 1) * nv d) (hl : pre.length + w.length + post.length < 900000) :
    ∃ v m', Ev E 286 [.msl bu 0 pre.length (d.length + 1) 1, .msl bd 0 0 d.length 1, .int .u64 (q : Int)] m v m' ∧ ∃ (t : Bool) (w' : List Nat), v = .bool t ∧ m'.get bu = some (.cells (cu (pre ++ (w' ++ post))) 0 false 68) ∧ (∀ b, b ≠ bu → m'.get b = m.get b) ∧ m'.next = m.next ∧
      w'.length = w.length ∧ Ok w' ∧ nv w' < nv d ∧ (t = true → 1 ≤ q) ∧ nv w = nv w' + (if t then q - 1 else q) * nv d := by
  refine Ev_rawE rfl rfl rfl (fn := Go.Proofs.Tryz.f286) rfl rfl rfl ?_
  show WC E _ ⟨((Tr.leaf.set 0 _).set 1 _).set 2 _, 91, _, _⟩ _
  repeat first | refine WC_seq ?_ | refine WC_block ?_ | refine WC_region ?_
  (apply WO_as (hn := rfl); exact lk)
  refine WO_nil ?_; show WC E _ _ _; repeat first | refine WC_seq ?_ | refine WC_block ?_ | refine WC_region ?_
  (apply WO_as (hn := rfl); exact lk; apply WO_as (hn := rfl); exact lk)
  refine WO_nil ?_; show WC E _ _ _; repeat first | refine WC_seq ?_ | refine WC_block ?_ | refine WC_region ?_
  (apply WO_mv (hn := rfl); exact lk; apply WO_b1 (hn := rfl) (hb := rfl); exact lk; exact nk; apply WO_mv (hn := rfl); exact lk)
  refine WO_nil ?_; show WC E _ _ _; repeat first | refine WC_seq ?_ | refine WC_block ?_ | refine WC_region ?_
  refine WC_loop (fun j s => ∃ (tm : Tr PV) (me : PM) (i cr bo : Nat) (c : List Nat), s = ⟨tm, 91, me, []⟩ ∧ tm.get 0 = some (.msl bu 0 pre.length (d.length + 1) 1) ∧ tm.get 1 = some (.msl bd 0 0 d.length 1) ∧ tm.get 2 = some (.int .u64 (q : Int)) ∧ tm.get 14 = some (.msl bd 0 0 d.length 1) ∧ tm.get 15 = some (.int .i64 (d.length : Int)) ∧ tm.get 16 = some (.int .i64 (i : Int)) ∧ tm.get 7 = some (.int .u64 (cr : Int)) ∧ tm.get 8 = some (.int .u32 (bo : Int)) ∧
    me.get bu = some (.cells (cu (pre ++ (c ++ post))) 0 false 68) ∧ me.next = m.next ∧ (∀ b, b ≠ bu → me.get b = m.get b) ∧ c.length = d.length + 1 ∧ Ok c ∧ i ≤ d.length ∧ j = d.length - i ∧ cr < 4294967296 ∧ bo ≤ 1 ∧ c.drop i = w.drop i ∧ nv (c.take i) + q * nv (d.take i) = nv (w.take i) + BB ^ i * (cr + bo)) d.length
    ⟨_, _, 0, 0, 0, w, rfl, gk, gk, gk, gk, gk, gk, gk, gk, hbu, rfl, fun _ _ => rfl, hw, how, by omega, by omega, by omega, by omega, rfl, by simp [nv]⟩ ?_
  rintro j s ⟨tm, me, i, cr, bo, c, rfl, g0, g1, g2, g14, g15, g16, g7, g8, hb, hnx, hoth, hc, hoc, hi, hj, hcr, hbo, hdr, hv⟩
  have hbd2 : me.get bd = some (.cells (cu d) 0 false 68) := by rw [hoth bd hne]; exact hbd
  repeat first | refine WC_seq ?_ | refine WC_block ?_ | refine WC_region ?_
  (apply WO_bin (hn := rfl); exact lk; exact lk; exact bk)
  refine WO_nil ?_; show WC E _ _ _; repeat first | refine WC_seq ?_ | refine WC_block ?_ | refine WC_region ?_
  apply WC_cond; (focus (apply condOf_t; (focus (first | (apply evo_t; (repeat (first | exact get_hit | assumption | refine get_miss rfl ?_ | fail)); done) | (exact rfl) | fail))))
  · intro hlt
    have hlt : i < d.length := by simp at hlt; omega
    obtain ⟨v, hv1⟩ : ∃ v, d[i]? = some v := ⟨_, List.getElem?_eq_getElem hlt⟩
    have hv2 : v < 4294967296 := hod.get hv1
    obtain ⟨x, hx1⟩ : ∃ x, c[i]? = some x := ⟨_, List.getElem?_eq_getElem (by omega)⟩
    have hx2 : x < 4294967296 := hoc.get hx1
    have hmul : q * v ≤ 18446744069414584320 := by
      have := Nat.mul_le_mul hq (show v ≤ 4294967295 by omega)
      omega
    have hs : (cr + q * v) % 4294967296 < 4294967296 := Nat.mod_lt _ (by decide)
    refine WC_skip ?_
    show WC E _ _ _; repeat first | refine WC_seq ?_ | refine WC_block ?_ | refine WC_region ?_
    (apply WO_mv (hn := rfl); exact lk)
    apply WO_ia (hn := rfl)
    exact lk
    exact lk
    · exact ia_msl ty34 hlt
    apply WO_ld (hn := rfl)
    exact lk
    · rw [Nat.zero_add]; exact ld_msl ty68 hbd2 hv1
    (apply WO_as (hn := rfl); exact lk; apply WO_as (hn := rfl); exact lk)
    refine WO_nil ?_; show WC E _ _ _; repeat first | refine WC_seq ?_ | refine WC_block ?_ | refine WC_region ?_
    (apply WO_mv (hn := rfl); exact lk; apply WO_mv (hn := rfl); exact lk; apply WO_mv (hn := rfl); exact lk; apply WO_cv (hn := rfl); exact lk; exact rfl; exact rfl; exact ck; apply WO_bin (hn := rfl); exact lk; exact lk; exact bk; apply WO_bin (hn := rfl); exact lk; exact lk; exact bk; apply WO_as (hn := rfl); exact lk)
    refine WO_nil ?_; show WC E _ _ _; repeat first | refine WC_seq ?_ | refine WC_block ?_ | refine WC_region ?_
    (apply WO_mv (hn := rfl); exact lk; apply WO_mv (hn := rfl); exact lk; apply WO_mv (hn := rfl); exact lk; apply WO_mv (hn := rfl); exact lk)
    apply WO_ia (hn := rfl)
    exact lk
    exact lk
    · exact ia_msl ty34 (by omega)
    apply WO_ld (hn := rfl)
    exact lk
    · exact ld_msl ty68 hb (by rw [win_get (by omega)]; exact hx1)
    (apply WO_mv (hn := rfl); exact lk; apply WO_cv (hn := rfl); exact lk; exact rfl; exact rfl; exact ck; apply WO_mv (hn := rfl); exact lk)
    apply WO_ca (hn := rfl) (.tup [.int .u32 (((x + (4294967296 - (cr + q * v) % 4294967296)) % 4294967296 + (4294967296 - bo)) % 4294967296 : Nat), .int .u32 ((if x < (cr + q * v) % 4294967296 + bo then 1 else 0 : Nat) : Int)]) me
    · apply evs3
      exact lk
      exact lk
      exact lk
    · exact bits_Sub32 hx2 hs hbo me
    have hdig := sub_digit hx2 hs hbo
    generalize hG : ((x + (4294967296 - (cr + q * v) % 4294967296)) % 4294967296 + (4294967296 - bo)) % 4294967296 = G at *
    have hG2 : G < 4294967296 := by omega
    generalize hO : (if x < (cr + q * v) % 4294967296 + bo then 1 else 0) = O at *
    have hO2 : O ≤ 1 := by rw [← hO]; split <;> omega
    (apply WO_mv (hn := rfl); exact lk; apply WO_ex (hn := rfl); exact lk; exact rfl; apply WO_ex (hn := rfl); exact lk; exact rfl)
    apply WO_ia (hn := rfl)
    exact lk
    exact lk
    · exact ia_msl ty34 (by omega)
    apply WO_st
    exact lk
    exact lk
    · exact st_msl ty68 hb (by simp; omega)
    rw [win_set (by omega)]
    (apply WO_as (hn := rfl); exact lk)
    refine WO_nil ?_; show WC E _ _ _; repeat first | refine WC_seq ?_ | refine WC_block ?_ | refine WC_region ?_
    (apply WO_mv (hn := rfl); exact lk; apply WO_bin (hn := rfl); exact lk; exact lk; exact bk; apply WO_as (hn := rfl); exact lk)
    refine WO_nil ?_; show WC E _ _ _; repeat first | refine WC_seq ?_ | refine WC_block ?_ | refine WC_region ?_
    (apply WO_bin (hn := rfl); exact lk; exact lk; exact bk; apply WO_mv (hn := rfl); exact lk)
    refine WO_nil ?_
    refine ⟨j - 1, by omega, _, _, i + 1, (cr + q * v) / 4294967296, O, c.set i G, rfl, gk, gk, gk, gk, gk, gk, gk, gk, by rw [PM.get_upd, if_pos rfl], hnx, fun b hb => by rw [PM.get_upd, if_neg (fun e => hb e.symm)]; exact hoth b hb, by simpa using hc, hoc.set hG2, by omega, by omega, by omega, hO2, ?_, ?_⟩
    · rw [drop_set_of_lt (by omega)]; exact drop_succ_of hdr
    · exact takes_step (by omega) (by rw [← get_of_drop hdr]; exact hx1) hv1 hdig hv
  · intro hlt
    have hlt : i = d.length := by simp at hlt; omega
    subst hlt
    obtain ⟨x, hx1⟩ : ∃ x, c[d.length]? = some x := ⟨_, List.getElem?_eq_getElem (by omega)⟩
    have hx2 : x < 4294967296 := hoc.get hx1
    refine WC_exit ?_
    show WC E _ _ _; repeat first | refine WC_seq ?_ | refine WC_block ?_ | refine WC_region ?_
    (apply WO_mv (hn := rfl); exact lk; apply WO_mv (hn := rfl); exact lk; apply WO_b1 (hn := rfl) (hb := rfl); exact lk; exact nk; apply WO_mv (hn := rfl); exact lk; apply WO_mv (hn := rfl); exact lk; apply WO_b1 (hn := rfl) (hb := rfl); exact lk; exact nk)
    apply WO_ia (hn := rfl)
    exact lk
    exact lk
    · exact ia_msl ty34 (by omega)
    apply WO_ld (hn := rfl)
    exact lk
    · exact ld_msl ty68 hb (by rw [win_get (by omega)]; exact hx1)
    (apply WO_mv (hn := rfl); exact lk; apply WO_cv (hn := rfl); exact lk; exact rfl; exact rfl; exact ck; apply WO_mv (hn := rfl); exact lk)
    rw [show cr % 4294967296 = cr from Nat.mod_eq_of_lt hcr]
    apply WO_ca (hn := rfl) (.tup [.int .u32 (((x + (4294967296 - cr)) % 4294967296 + (4294967296 - bo)) % 4294967296 : Nat), .int .u32 ((if x < cr + bo then 1 else 0 : Nat) : Int)]) me
    · apply evs3
      exact lk
      exact lk
      exact lk
    · exact bits_Sub32 hx2 hcr hbo me
    have hdig := sub_digit hx2 hcr hbo
    generalize hG : ((x + (4294967296 - cr)) % 4294967296 + (4294967296 - bo)) % 4294967296 = G at *
    have hG2 : G < 4294967296 := by omega
    generalize hO : (if x < cr + bo then 1 else 0) = O at *
    have hO2 : O ≤ 1 := by rw [← hO]; split <;> omega
    have hlast := takes_last (c := c) (w := w) (d := d) hc hw rfl (by rw [← get_of_drop hdr]; exact hx1) hdig hv
    (apply WO_mv (hn := rfl); exact lk; apply WO_ex (hn := rfl); exact lk; exact rfl; apply WO_ex (hn := rfl); exact lk; exact rfl)
    apply WO_ia (hn := rfl)
    exact lk
    exact lk
    · exact ia_msl ty34 (by omega)
    apply WO_st
    exact lk
    exact lk
    · exact st_msl ty68 hb (by simp; omega)
    rw [win_set (by omega)]
    have hoc' : Ok (c.set d.length G) := hoc.set hG2
    have hc' : (c.set d.length G).length = d.length + 1 := by simpa using hc
    generalize c.set d.length G = c' at *
    (apply WO_as (hn := rfl); exact lk)
    refine WO_nil ?_; show WC E _ _ _; repeat first | refine WC_seq ?_ | refine WC_block ?_ | refine WC_region ?_
    (apply WO_mv (hn := rfl); exact lk; apply WO_bin (hn := rfl); exact lk; exact lk; exact bk)
    refine WO_nil ?_; show WC E _ _ _; repeat first | refine WC_seq ?_ | refine WC_block ?_ | refine WC_region ?_
    have hnw := nv_lt hoc'
    rw [hc'] at hnw
    apply WC_cond; (focus (apply condOf_t; (focus (first | (apply evo_t; (repeat (first | exact get_hit | assumption | refine get_miss rfl ?_ | fail)); done) | (exact rfl) | fail))))
    · intro hz
      have hz : O = 0 := by simp at hz; omega
      subst hz
      rw [Nat.mul_zero, Nat.add_zero] at hlast
      obtain ⟨r1, r2⟩ := takes_no hlast h2
      repeat first | refine WC_seq ?_ | refine WC_block ?_ | refine WC_region ?_
      (apply WO_as (hn := rfl); exact lk)
      refine WO_nil ?_
      show WC E _ _ _
      refine WC_ret ?_
      show BodyQ _ _ _ _ _
      exact fin1 rfl ex_ret rfl get_hit ⟨false, c', rfl, by rw [PM.get_upd, if_pos rfl], fun b hb => by rw [PM.get_upd, if_neg (fun e => hb e.symm)]; exact hoth b hb, hnx, by omega, hoc', r1, nofun, r2⟩
    · intro hz
      have hz : O = 1 := by simp at hz; omega
      subst hz
      rw [Nat.mul_one] at hlast
      refine WC_skip ?_
      show WC E _ _ _; repeat first | refine WC_seq ?_ | refine WC_block ?_ | refine WC_region ?_
      (apply WO_as (hn := rfl); exact lk)
      refine WO_nil ?_; show WC E _ _ _; repeat first | refine WC_seq ?_ | refine WC_block ?_ | refine WC_region ?_
      (apply WO_mv (hn := rfl); exact lk; apply WO_b1 (hn := rfl) (hb := rfl); exact lk; exact nk; apply WO_mv (hn := rfl); exact lk)
      refine WO_nil ?_; show WC E _ _ _; repeat first | refine WC_seq ?_ | refine WC_block ?_ | refine WC_region ?_
      refine WC_loop (fun j s => ∃ (tm : Tr PV) (me : PM) (i mo : Nat) (e : List Nat), s = ⟨tm, 91, me, []⟩ ∧ tm.get 0 = some (.msl bu 0 pre.length (d.length + 1) 1) ∧ tm.get 1 = some (.msl bd 0 0 d.length 1) ∧ tm.get 62 = some (.msl bd 0 0 d.length 1) ∧ tm.get 63 = some (.int .i64 (d.length : Int)) ∧ tm.get 64 = some (.int .i64 (i : Int)) ∧ tm.get 11 = some (.int .u32 (mo : Int)) ∧
        me.get bu = some (.cells (cu (pre ++ (e ++ post))) 0 false 68) ∧ me.next = m.next ∧ (∀ b, b ≠ bu → me.get b = m.get b) ∧ e.length = d.length + 1 ∧ Ok e ∧ i ≤ d.length ∧ j = d.length - i ∧ mo ≤ 1 ∧ e.drop i = c'.drop i ∧ nv (e.take i) + BB ^ i * mo = nv (c'.take i) + nv (d.take i)) d.length
        ⟨_, _, 0, 0, c', rfl, gk, gk, gk, gk, gk, gk, by rw [PM.get_upd, if_pos rfl], hnx, fun b hb => by rw [PM.get_upd, if_neg (fun e => hb e.symm)]; exact hoth b hb, hc', hoc', by omega, by omega, by omega, rfl, by simp [nv]⟩ ?_
      clear g0 g1 g2 g14 g15 g16 g7 g8 hb hnx hoth hbd2
      rintro j s ⟨tm, me, i, mo, e, rfl, g0, g1, g62, g63, g64, g11, hb, hnx, hoth, he, hoe, hi, hj, hmo, hdr2, hv3⟩
      have hbd2 : me.get bd = some (.cells (cu d) 0 false 68) := by rw [hoth bd hne]; exact hbd
      repeat first | refine WC_seq ?_ | refine WC_block ?_ | refine WC_region ?_
      (apply WO_bin (hn := rfl); exact lk; exact lk; exact bk)
      refine WO_nil ?_; show WC E _ _ _; repeat first | refine WC_seq ?_ | refine WC_block ?_ | refine WC_region ?_
      apply WC_cond; (focus (apply condOf_t; (focus (first | (apply evo_t; (repeat (first | exact get_hit | assumption | refine get_miss rfl ?_ | fail)); done) | (exact rfl) | fail))))
      · intro hlt
        have hlt : i < d.length := by simp at hlt; omega
        obtain ⟨v, hv1⟩ : ∃ v, d[i]? = some v := ⟨_, List.getElem?_eq_getElem hlt⟩
        have hv2 : v < 4294967296 := hod.get hv1
        obtain ⟨y, hy1⟩ : ∃ y, e[i]? = some y := ⟨_, List.getElem?_eq_getElem (by omega)⟩
        have hy2 : y < 4294967296 := hoe.get hy1
        refine WC_skip ?_
        show WC E _ _ _; repeat first | refine WC_seq ?_ | refine WC_block ?_ | refine WC_region ?_
        (apply WO_mv (hn := rfl); exact lk)
        apply WO_ia (hn := rfl)
        exact lk
        exact lk
        · exact ia_msl ty34 hlt
        apply WO_ld (hn := rfl)
        exact lk
        · rw [Nat.zero_add]; exact ld_msl ty68 hbd2 hv1
        (apply WO_as (hn := rfl); exact lk; apply WO_as (hn := rfl); exact lk)
        refine WO_nil ?_; show WC E _ _ _; repeat first | refine WC_seq ?_ | refine WC_block ?_ | refine WC_region ?_
        (apply WO_mv (hn := rfl); exact lk; apply WO_mv (hn := rfl); exact lk; apply WO_mv (hn := rfl); exact lk; apply WO_mv (hn := rfl); exact lk)
        apply WO_ia (hn := rfl)
        exact lk
        exact lk
        · exact ia_msl ty34 (by omega)
        apply WO_ld (hn := rfl)
        exact lk
        · exact ld_msl ty68 hb (by rw [win_get (by omega)]; exact hy1)
        (apply WO_mv (hn := rfl); exact lk; apply WO_mv (hn := rfl); exact lk)
        apply WO_ca (hn := rfl) (.tup [.int .u32 (((y + v + mo) % 4294967296 : Nat) : Int), .int .u32 (((y + v + mo) / 4294967296 : Nat) : Int)]) me
        · apply evs3
          exact lk
          exact lk
          exact lk
        · exact bits_Add32 hy2 hv2 hmo me
        (apply WO_mv (hn := rfl); exact lk; apply WO_ex (hn := rfl); exact lk; exact rfl; apply WO_ex (hn := rfl); exact lk; exact rfl)
        apply WO_ia (hn := rfl)
        exact lk
        exact lk
        · exact ia_msl ty34 (by omega)
        apply WO_st
        exact lk
        exact lk
        · exact st_msl ty68 hb (by simp; omega)
        rw [win_set (by omega)]
        (apply WO_as (hn := rfl); exact lk)
        refine WO_nil ?_; show WC E _ _ _; repeat first | refine WC_seq ?_ | refine WC_block ?_ | refine WC_region ?_
        (apply WO_bin (hn := rfl); exact lk; exact lk; exact bk; apply WO_mv (hn := rfl); exact lk)
        refine WO_nil ?_
        refine ⟨j - 1, by omega, _, _, i + 1, (y + v + mo) / 4294967296, e.set i ((y + v + mo) % 4294967296), rfl, gk, gk, gk, gk, gk, gk, by rw [PM.get_upd, if_pos rfl], hnx, fun b hb => by rw [PM.get_upd, if_neg (fun e => hb e.symm)]; exact hoth b hb, by simpa using he, hoe.set (Nat.mod_lt _ BB_pos), by omega, by omega, by omega, ?_, ?_⟩
        · rw [drop_set_of_lt (by omega)]; exact drop_succ_of hdr2
        · exact add_step (by omega) (by rw [← get_of_drop hdr2]; exact hy1) hv1 hv3
      · intro hlt
        have hlt : i = d.length := by simp at hlt; omega
        subst hlt
        obtain ⟨y, hy1⟩ : ∃ y, e[d.length]? = some y := ⟨_, List.getElem?_eq_getElem (by omega)⟩
        have hy2 : y < 4294967296 := hoe.get hy1
        refine WC_exit ?_
        show WC E _ _ _; repeat first | refine WC_seq ?_ | refine WC_block ?_ | refine WC_region ?_
        (apply WO_mv (hn := rfl); exact lk; apply WO_mv (hn := rfl); exact lk; apply WO_b1 (hn := rfl) (hb := rfl); exact lk; exact nk)
        apply WO_ia (hn := rfl)
        exact lk
        exact lk
        · exact ia_msl ty34 (by omega)
        apply WO_ld (hn := rfl)
        exact lk
        · exact ld_msl ty68 hb (by rw [win_get (by omega)]; exact hy1)
        (apply WO_mv (hn := rfl); exact lk)
        apply WO_bin (hn := rfl)
        exact lk
        exact lk
        · exact b_add32
        apply WO_ia (hn := rfl)
        exact lk
        exact lk
        · exact ia_msl ty34 (by omega)
        apply WO_st
        exact lk
        exact lk
        · exact st_msl ty68 hb (by simp; omega)
        rw [win_set (by omega)]
        have hal := add_last (e := e) (c := c') (d := d) he hc' rfl (by rw [← get_of_drop hdr2]; exact hy1) hv3
        have hoe' : Ok (e.set d.length ((y + mo) % 4294967296)) := hoe.set (Nat.mod_lt _ BB_pos)
        have he' : (e.set d.length ((y + mo) % 4294967296)).length = d.length + 1 := by simpa using he
        have hne' := nv_lt hoe'
        rw [he'] at hne'
        obtain ⟨r1, r2, r3⟩ := takes_yes hlast h1 hnw hne' (show (y + mo) / 4294967296 ≤ 1 by omega) hal
        refine WO_nil ?_; show WC E _ _ _; repeat first | refine WC_seq ?_ | refine WC_block ?_ | refine WC_region ?_
        (apply WO_as (hn := rfl); exact lk)
        refine WO_nil ?_
        show WC E _ _ _
        refine WC_ret ?_
        show BodyQ _ _ _ _ _
        exact fin1 rfl ex_ret rfl get_hit ⟨true, _, rfl, by rw [PM.get_upd, if_pos rfl], fun b hb => by rw [PM.get_upd, if_neg (fun e => hb e.symm)]; exact hoth b hb, hnx, by omega, hoe', r2, fun _ => r1, r3⟩
end Go.Ab.T
/- nat.Shift, back by less than a limb. -/
open Go Go.Ab
namespace Go.Ab.T
set_option maxRecDepth 10000
set_option maxHeartbeats 1000000
set_option linter.unusedSimpArgs false
attribute [local irreducible] Tr.get Tr.set

theorem nat_Shift {a : List Nat} {p : PV} {k : Nat} (h : Lim a p) (ho : Ok a) (hl : a.length < 800000) (hk : k ≤ 31) : ∃ r, Lim (lm (nv a / 2 ^ k)) r ∧ ∀ m, Ev E 287 [p, .int .i64 (-(k : Int))] m r m := by
  obtain ⟨pA, hA, hp2⟩ := nat_trim h ho (by omega)
  have hla : (lm (nv a)).length < 800000 := Nat.lt_of_le_of_lt (lm_le ho) hl
  generalize hx : nv a = x at *
  have hoA := ok_lm x
  have hxA := nv_lm x
  refine Ev_isoE rfl rfl rfl (flats2 h.flat rfl) (fn := Go.Proofs.Tryz.f287) rfl rfl rfl ?_
  show WC E _ ⟨(Tr.leaf.set 0 p).set 1 _, 95, _, _⟩ _
  generalize lm x = A at *
  repeat first | refine WC_seq ?_ | refine WC_block ?_ | refine WC_region ?_
  (apply WO_as (hn := rfl); exact lk)
  refine WO_nil ?_; show WC E _ _ _; repeat first | refine WC_seq ?_ | refine WC_block ?_ | refine WC_region ?_
  (apply WO_mv (hn := rfl); exact lk)
  apply WO_b2 (hn := rfl) (hb := rfl)
  exact lk
  exact lk
  · exact max_I (by omega)
  apply WO_b2 (hn := rfl) (hb := rfl)
  exact lk
  exact lk
  · exact min_I (by omega)
  (apply WO_as (hn := rfl); exact lk)
  refine WO_nil ?_; show WC E _ _ _; repeat first | refine WC_seq ?_ | refine WC_block ?_ | refine WC_region ?_
  (apply WO_mv (hn := rfl); exact lk)
  apply WO_ca (hn := rfl) pA PM.empty
  · exact evs1 lk
  · exact hp2 _
  (apply WO_as (hn := rfl); exact lk)
  refine WO_nil ?_; show WC E _ _ _; repeat first | refine WC_seq ?_ | refine WC_block ?_ | refine WC_region ?_
  (apply WO_mv (hn := rfl); exact lk; apply WO_bin (hn := rfl); exact lk; exact lk; exact bk)
  refine WO_nil ?_; show WC E _ _ _; repeat first | refine WC_seq ?_ | refine WC_block ?_ | refine WC_region ?_
  apply WC_cond; (focus (apply condOf_t; (focus (first | (apply evo_t; (repeat (first | exact get_hit | assumption | refine get_miss rfl ?_ | fail)); done) | (exact rfl) | fail))))
  · intro hk0
    have hk0 : 0 < k := by simp at hk0; omega
    repeat first | refine WC_seq ?_ | refine WC_block ?_ | refine WC_region ?_
    (apply WO_mv (hn := rfl); exact lk)
    apply WO_un (hn := rfl)
    exact lk
    · exact u_negI (by omega) (by omega)
    rw [Int.neg_neg]
    apply WO_bin (hn := rfl)
    exact lk
    exact lk
    · exact b_quoI (b := 32) (by omega) (by decide)
    rw [show k / 32 = 0 by omega]
    (apply WO_as (hn := rfl); exact lk)
    refine WO_nil ?_; show WC E _ _ _; repeat first | refine WC_seq ?_ | refine WC_block ?_ | refine WC_region ?_
    (apply WO_mv (hn := rfl); exact lk; apply WO_mv (hn := rfl); exact lk; apply WO_b1 (hn := rfl) (hb := rfl); exact lk; exact nk; apply WO_bin (hn := rfl); exact lk; exact lk; exact bk)
    refine WO_nil ?_; show WC E _ _ _; repeat first | refine WC_seq ?_ | refine WC_block ?_ | refine WC_region ?_
    apply WC_cond; (focus (apply condOf_t; (focus (first | (apply evo_t; (repeat (first | exact get_hit | assumption | refine get_miss rfl ?_ | fail)); done) | (exact rfl) | fail))))
    · intro hA0
      have hA0 : A.length = 0 := by simp only [decide_eq_true_eq] at hA0; omega
      have hx0 : x = 0 := by rw [← hxA, List.length_eq_zero_iff.1 hA0]; rfl
      repeat first | refine WC_seq ?_ | refine WC_block ?_ | refine WC_region ?_
      (apply WO_as (hn := rfl); exact lk)
      refine WO_nil ?_
      show WC E _ _ _
      refine WC_ret ?_
      show BodyQ _ _ _ _ _
      exact fin1 rfl ex_ret rfl get_hit ⟨.nils, PM.empty, rfl, .inl ⟨by rw [hx0, Nat.zero_div, lm_zero], rfl⟩⟩
    · intro hA0
      have hA0 : 0 < A.length := by simp only [decide_eq_false_iff_not] at hA0; omega
      refine WC_skip ?_
      show WC E _ _ _; repeat first | refine WC_seq ?_ | refine WC_block ?_ | refine WC_region ?_
      (apply WO_mv (hn := rfl); exact lk)
      apply WO_un (hn := rfl)
      exact lk
      · exact u_negI (by omega) (by omega)
      rw [Int.neg_neg]
      apply WO_bin (hn := rfl)
      exact lk
      exact lk
      · exact b_remI (b := 32) (by decide)
      rw [show k % 32 = k by omega]
      (apply WO_cv (hn := rfl); exact lk; exact rfl; exact rfl; exact ck; apply WO_as (hn := rfl); exact lk)
      refine WO_nil ?_; show WC E _ _ _; repeat first | refine WC_seq ?_ | refine WC_block ?_ | refine WC_region ?_
      (apply WO_mv (hn := rfl); exact lk; apply WO_b1 (hn := rfl) (hb := rfl); exact lk; exact nk; apply WO_mv (hn := rfl); exact lk; apply WO_bin (hn := rfl); exact lk; exact lk; exact bk)
      apply WO_mk (hn := rfl)
      exact lk
      exact lk
      · rw [show (A.length : Int) - ((0 : Nat) : Int) = (A.length : Int) by omega]
        exact mk_msl ty34 (n := A.length) (by omega)
      (apply WO_as (hn := rfl); exact lk)
      refine WO_nil ?_; show WC E _ _ _; repeat first | refine WC_seq ?_ | refine WC_block ?_ | refine WC_region ?_
      (apply WO_mv (hn := rfl); exact lk; apply WO_mv (hn := rfl); exact lk)
      obtain ⟨q2, hq2, hq3⟩ := sl_all ty34 hA (kd := .i64)
      apply WO_sl (hn := rfl)
      exact lk
      · exact evopt_s lk
      · exact rfl
      · exact rfl
      · exact hq2
      (apply WO_b1 (hn := rfl) (hb := rfl); exact lk; exact nk; apply WO_mv (hn := rfl); exact lk)
      refine WO_nil ?_; show WC E _ _ _; repeat first | refine WC_seq ?_ | refine WC_block ?_ | refine WC_region ?_
      have zero0 : ∀ (t y : Nat), (List.replicate A.length (0 : Nat))[t]? = some y → y = 0 := by
        intro t y hy
        rw [List.getElem?_replicate] at hy
        split at hy
        · cases hy; rfl
        · cases hy
      refine WC_loop (fun j s => ∃ (tm : Tr PV) (me : PM) (i : Nat) (c : List Nat), s = ⟨tm, 95, me, []⟩ ∧ tm.get 6 = some (.int .u64 (k : Int)) ∧ tm.get 38 = some q2 ∧ tm.get 39 = some (.int .i64 (A.length : Int)) ∧ tm.get 40 = some (.int .i64 (i : Int)) ∧ tm.get 7 = some (.msl 0 0 0 A.length 1) ∧
        me.get 0 = some (.cells (cu c) 0 false 68) ∧ c.length = A.length ∧ Ok c ∧ i ≤ A.length ∧ j = A.length - i ∧ nv c = nv (A.take i) / 2 ^ k ∧ (∀ (y : Nat), 0 < i → c[i - 1]? = some y → y < 2 ^ (32 - k)) ∧ (∀ (t y : Nat), i ≤ t → c[t]? = some y → y = 0)) A.length
        ⟨_, _, 0, List.replicate A.length 0, rfl, gk, gk, gk, gk, gk, by rw [PM.get_new]; exact if_pos rfl, by simp, .replicate, by omega, by omega, by simp [nv, nv_replicate], fun y h => by omega, fun t y _ => zero0 t y⟩ ?_
      rintro j s ⟨tm, me, i, c, rfl, g6, g38, g39, g40, g7, hb, hc, hoc, hi, hj, hv, hlow, hzero⟩
      repeat first | refine WC_seq ?_ | refine WC_block ?_ | refine WC_region ?_
      (apply WO_bin (hn := rfl); exact lk; exact lk; exact bk)
      refine WO_nil ?_; show WC E _ _ _; repeat first | refine WC_seq ?_ | refine WC_block ?_ | refine WC_region ?_
      apply WC_cond; (focus (apply condOf_t; (focus (first | (apply evo_t; (repeat (first | exact get_hit | assumption | refine get_miss rfl ?_ | fail)); done) | (exact rfl) | fail))))
      · intro hlt
        have hlt : i < A.length := by simp at hlt; omega
        obtain ⟨v, hv1⟩ : ∃ v, A[i]? = some v := ⟨_, List.getElem?_eq_getElem hlt⟩
        have hv2 : v < 4294967296 := hoA.get hv1
        have hz : c[i]? = some 0 := by
          obtain ⟨z, hz⟩ : ∃ z, c[i]? = some z := ⟨_, List.getElem?_eq_getElem (by omega)⟩
          rw [hz, hzero i z (by omega) hz]
        have hm1 : v * 2 ^ 32 % 18446744073709551616 = v * 2 ^ 32 := Nat.mod_eq_of_lt (by omega)
        have hw : v * 2 ^ 32 / 2 ^ k = v * 2 ^ (32 - k) := by
          have : (2 : Nat) ^ 32 = 2 ^ (32 - k) * 2 ^ k := by rw [← Nat.pow_add, show 32 - k + k = 32 by omega]
          rw [this, ← Nat.mul_assoc, Nat.mul_div_cancel _ (Nat.pow_pos (by decide))]
        have hw2 : v * 2 ^ (32 - k) < 18446744073709551616 := by
          have := Nat.mul_le_mul (show v ≤ 4294967295 by omega) (pow31 (k := 32 - k) (by omega))
          omega
        have hw3 : v * 2 ^ (32 - k) / 4294967296 = v / 2 ^ k := by
          have : 4294967296 = 2 ^ k * 2 ^ (32 - k) := by rw [← Nat.pow_add, show k + (32 - k) = 32 by omega]
          rw [this, Nat.mul_div_mul_right _ _ (Nat.pow_pos (by decide))]
        have hhi : v / 2 ^ k < 2 ^ (32 - k) := by
          rw [Nat.div_lt_iff_lt_mul (Nat.pow_pos (by decide)), ← Nat.pow_add, show 32 - k + k = 32 by omega]
          exact hv2
        have h31 := pow31 (k := 32 - k) (by omega)
        refine WC_skip ?_
        show WC E _ _ _; repeat first | refine WC_seq ?_ | refine WC_block ?_ | refine WC_region ?_
        (apply WO_mv (hn := rfl); exact lk)
        apply WO_ia (hn := rfl)
        exact lk
        exact lk
        · exact ia_lim ty34 hq3 hlt
        apply WO_ld (hn := rfl)
        exact lk
        · exact ld_lim ty68 hv1
        (apply WO_as (hn := rfl); exact lk; apply WO_as (hn := rfl); exact lk)
        refine WO_nil ?_; show WC E _ _ _; repeat first | refine WC_seq ?_ | refine WC_block ?_ | refine WC_region ?_
        (apply WO_mv (hn := rfl); exact lk; apply WO_cv (hn := rfl); exact lk; exact rfl; exact rfl; exact ck; apply WO_bin (hn := rfl); exact lk; exact lk; exact bk; apply WO_mv (hn := rfl); exact lk)
        rw [hm1]
        apply WO_bin (hn := rfl)
        exact lk
        exact lk
        · exact b_shrU (by show k ≤ 64; omega)
        rw [hw]
        (apply WO_as (hn := rfl); exact lk)
        refine WO_nil ?_; show WC E _ _ _; repeat first | refine WC_seq ?_ | refine WC_block ?_ | refine WC_region ?_
        (apply WO_mv (hn := rfl); exact lk; apply WO_mv (hn := rfl); exact lk)
        apply WO_ia (hn := rfl)
        exact lk
        exact lk
        · exact ia_msl ty34 (by omega)
        apply WO_ld (hn := rfl)
        exact lk
        · rw [Nat.zero_add]; exact ld_msl ty68 hb hz
        (apply WO_mv (hn := rfl); exact lk; apply WO_bin (hn := rfl); exact lk; exact lk; exact bk; apply WO_cv (hn := rfl); exact lk; exact rfl; exact rfl; exact ck)
        have hm2 : v * 2 ^ (32 - k) / 2 ^ 32 % 4294967296 = v / 2 ^ k := by omega
        rw [hm2]
        apply WO_bin (hn := rfl)
        exact lk
        exact lk
        · have e := b_or32 (K := E.ty 68) (cst := false) (a := 0) (b := v / 2 ^ k) (by omega) (by omega)
          rw [Nat.zero_or] at e
          exact e
        apply WO_ia (hn := rfl)
        exact lk
        exact lk
        · exact ia_msl ty34 (by omega)
        apply WO_st
        exact lk
        exact lk
        · rw [Nat.zero_add]; exact st_msl ty68 hb (by omega)
        refine WO_nil ?_; show WC E _ _ _; repeat first | refine WC_seq ?_ | refine WC_block ?_ | refine WC_region ?_
        (apply WO_mv (hn := rfl); exact lk; apply WO_bin (hn := rfl); exact lk; exact lk; exact bk)
        refine WO_nil ?_; show WC E _ _ _; repeat first | refine WC_seq ?_ | refine WC_block ?_ | refine WC_region ?_
        apply WC_cond; (focus (apply condOf_t; (focus (first | (apply evo_t; (repeat (first | exact get_hit | assumption | refine get_miss rfl ?_ | fail)); done) | (exact rfl) | fail))))
        · intro hi0
          have hi0 : 0 < i := by simp at hi0; omega
          obtain ⟨y, hy⟩ : ∃ y, c[i - 1]? = some y := ⟨_, List.getElem?_eq_getElem (by omega)⟩
          have hy2 := hlow y hi0 hy
          have hor := or_lo (x := v) (k := 32 - k) (c := y) (by omega) hy2
          have hlo : y + v * 2 ^ (32 - k) % 4294967296 < 4294967296 := by
            rw [← hor]; exact Nat.or_lt_two_pow (n := 32) (hoc.get hy) (Nat.mod_lt _ (by decide))
          have hy3 : (c.set i (v / 2 ^ k))[i - 1]? = some y := by rw [List.getElem?_set_ne (by omega)]; exact hy
          repeat first | refine WC_seq ?_ | refine WC_block ?_ | refine WC_region ?_
          (apply WO_mv (hn := rfl); exact lk; apply WO_mv (hn := rfl); exact lk; apply WO_bin (hn := rfl); exact lk; exact lk; exact bk)
          apply WO_ia (hn := rfl)
          exact lk
          exact lk
          · rw [show (i : Int) - 1 = ((i - 1 : Nat) : Int) by omega]
            exact ia_msl ty34 (by omega)
          apply WO_ld (hn := rfl)
          exact lk
          · rw [Nat.zero_add]; exact ld_msl (a := c.set i (v / 2 ^ k)) (frz := false) (et := 68) ty68 (by rw [PM.get_upd, if_pos rfl]) hy3
          (apply WO_mv (hn := rfl); exact lk; apply WO_cv (hn := rfl); exact lk; exact rfl; exact rfl; exact ck)
          apply WO_bin (hn := rfl)
          exact lk
          exact lk
          · have e := b_or32 (K := E.ty 68) (cst := false) (a := y) (b := v * 2 ^ (32 - k) % 4294967296) (hoc.get hy) (Nat.mod_lt _ (by decide))
            rw [hor] at e
            exact e
          apply WO_ia (hn := rfl)
          exact lk
          exact lk
          · rw [show (i : Int) - 1 = ((i - 1 : Nat) : Int) by omega]
            exact ia_msl ty34 (by omega)
          apply WO_st
          exact lk
          exact lk
          · rw [Nat.zero_add]; exact st_msl (a := c.set i (v / 2 ^ k)) (et := 68) ty68 (by rw [PM.get_upd, if_pos rfl]) (by simp; omega)
          refine WO_nil ?_; show WC E _ _ _; repeat first | refine WC_seq ?_ | refine WC_block ?_ | refine WC_region ?_
          (apply WO_bin (hn := rfl); exact lk; exact lk; exact bk; apply WO_mv (hn := rfl); exact lk)
          refine WO_nil ?_
          refine ⟨j - 1, by omega, _, _, i + 1, (c.set i (v / 2 ^ k)).set (i - 1) (y + v * 2 ^ (32 - k) % 4294967296), rfl, gk, gk, gk, gk, gk, by rw [PM.get_upd, if_pos rfl], by simpa using hc, (hoc.set (show _ < BB by rw [BB_eq]; omega)).set hlo, by omega, by omega, right_step hk hi0 hv1 hy hz hv, ?_, ?_⟩
          · intro z _ hz2
            rw [Nat.add_sub_cancel, List.getElem?_set_ne (by omega), List.getElem?_set_self (by omega)] at hz2
            cases hz2; exact hhi
          · intro t z ht hz2
            rw [List.getElem?_set_ne (by omega), List.getElem?_set_ne (by omega)] at hz2
            exact hzero t z (by omega) hz2
        · intro hi0
          have hi0 : i = 0 := by simp at hi0; omega
          subst hi0
          refine WC_skip ?_
          show WC E _ _ _; repeat first | refine WC_seq ?_ | refine WC_block ?_ | refine WC_region ?_
          (apply WO_bin (hn := rfl); exact lk; exact lk; exact bk; apply WO_mv (hn := rfl); exact lk)
          refine WO_nil ?_
          refine ⟨j - 1, by omega, _, _, 0 + 1, c.set 0 (v / 2 ^ k), rfl, gk, gk, gk, gk, gk, by rw [PM.get_upd, if_pos rfl], by simpa using hc, hoc.set (show _ < BB by rw [BB_eq]; omega), by omega, by omega, right_first hv1 hz (by rw [hv]; simp [nv]), ?_, ?_⟩
          · intro z _ hz2
            rw [Nat.add_sub_cancel, List.getElem?_set_self (by omega)] at hz2
            cases hz2; exact hhi
          · intro t z ht hz2
            rw [List.getElem?_set_ne (by omega)] at hz2
            exact hzero t z (by omega) hz2
      · intro hlt
        have hlt : i = A.length := by simp at hlt; omega
        subst hlt
        refine WC_exit ?_
        show WC E _ _ _; repeat first | refine WC_seq ?_ | refine WC_block ?_ | refine WC_region ?_
        (apply WO_mv (hn := rfl); exact lk)
        rw [nv_take_all (Nat.le_refl _), hxA] at hv
        obtain ⟨r, hr1, hr2⟩ := nat_trim (a := c) (.inr ⟨none, rfl⟩) hoc (by omega)
        rw [hv] at hr1
        obtain ⟨m', hm'⟩ := ev_msl (f := 176) rfl rfl rfl hb rfl hc.symm (hr2 _)
        apply WO_ca (hn := rfl) r m'
        · exact evs1 lk
        · exact hm'
        (apply WO_as (hn := rfl); exact lk)
        refine WO_nil ?_
        show WC E _ _ _
        refine WC_ret ?_
        show BodyQ _ _ _ _ _
        refine fin1 rfl ex_ret rfl get_hit ?_
        obtain ⟨q3, m3, h3, h4⟩ := Lim.rd hr1 m' 11
        exact ⟨q3, m3, h3, h4⟩
  · intro hk0
    have hk0 : k = 0 := by simp at hk0; omega
    subst hk0
    refine WC_skip ?_
    show WC E _ _ _; repeat first | refine WC_seq ?_ | refine WC_block ?_ | refine WC_region ?_
    have e0 : (-((0 : Nat) : Int)) = ((0 : Nat) : Int) := rfl
    rw [e0]
    (apply WO_mv (hn := rfl); exact lk)
    apply WO_bin (hn := rfl)
    exact lk
    exact lk
    · exact b_quoI (b := 32) (by omega) (by decide)
    rw [show 0 / 32 = 0 from rfl]
    (apply WO_as (hn := rfl); exact lk)
    refine WO_nil ?_; show WC E _ _ _; repeat first | refine WC_seq ?_ | refine WC_block ?_ | refine WC_region ?_
    (apply WO_mv (hn := rfl); exact lk; apply WO_mv (hn := rfl); exact lk; apply WO_b1 (hn := rfl) (hb := rfl); exact lk; exact nk; apply WO_bin (hn := rfl); exact lk; exact lk; exact bk; apply WO_bin (hn := rfl); exact lk; exact lk; exact bk)
    apply WO_mk (hn := rfl)
    exact lk
    exact lk
    · rw [show ((0 : Nat) : Int) + (A.length : Int) + 1 = ((A.length + 1 : Nat) : Int) by omega]
      exact mk_msl ty34 (n := A.length + 1) (by omega)
    (apply WO_as (hn := rfl); exact lk)
    refine WO_nil ?_
    show WC E _ _ _
    repeat first | refine WC_seq ?_ | refine WC_block ?_ | refine WC_region ?_
    have hfit : nv A * 2 ^ 0 < BB ^ (A.length + 1) := by
      have := nv_lt hoA
      rw [Nat.pow_succ]
      have h2 := Nat.mul_le_mul_left (BB ^ A.length) (show 1 ≤ BB by decide)
      omega
    obtain ⟨q5, m5, h5, c5, rfl, h6, h7, h8, h9, h10, h11⟩ := nat_left (n := A.length + 1) (k := 0) hA hoA (by omega) (by omega) (by omega) hfit (PM.empty.new (.cells (cu (List.replicate (A.length + 1) 0)) 0 false 68))
    have hb0 : m5.get 0 = some (.cells (cu (List.replicate (A.length + 1) 0)) 0 false 68) := by
      rw [h8 0 (show (0 : Nat) ≠ 1 by decide), PM.get_new]; exact if_pos rfl
    (apply WC_draw; (focus exact rfl))
    (apply WD_mv (hn := rfl); exact lk; apply WD_mv (hn := rfl); exact lk)
    apply WD_sl (hn := rfl)
    exact lk
    · exact evopt_s lk
    · exact rfl
    · exact rfl
    · exact sl_msl_0 ty34
    (apply WD_mv (hn := rfl); exact lk; apply WD_mv (hn := rfl); exact lk)
    apply WD_bin (hn := rfl)
    exact lk
    exact lk
    · exact b_remI (b := 32) (by decide)
    rw [show 0 % 32 = 0 from rfl]
    (apply WD_cv (hn := rfl); exact lk; exact rfl; exact rfl; exact ck; apply WD_mv (hn := rfl); exact lk; apply WD_b1 (hn := rfl) (hb := rfl); exact lk; exact nk; apply WD_bin (hn := rfl); exact lk; exact lk; exact bk)
    apply WD_ca (hn := rfl) (hpc := rfl)
    · apply evs3
      exact lk
      exact lk
      exact lk
    · exact h5
    apply WD_m2 (hn := rfl) (hb := rfl)
    exact lk
    exact lk
    · exact copy_msl ty34 hb0 h6 (by simp) h9
    refine WD_nil ⟨rfl, ?_⟩
    show WC E _ _ _
    repeat first | refine WC_seq ?_ | refine WC_block ?_ | refine WC_region ?_
    (apply WO_mv (hn := rfl); exact lk)
    obtain ⟨r, hr1, hr2⟩ := nat_trim (a := c5) (.inr ⟨none, rfl⟩) h10 (by omega)
    rw [h11, hxA, Nat.pow_zero, Nat.mul_one] at hr1
    obtain ⟨m', hm'⟩ := ev_msl (f := 176) rfl rfl rfl (b := 0) (m := m5.upd 0 (.cells (cu c5) 0 false 68)) (by rw [PM.get_upd, if_pos rfl]) rfl h9.symm (hr2 _)
    apply WO_ca (hn := rfl) r m'
    · exact evs1 lk
    · exact hm'
    (apply WO_as (hn := rfl); exact lk)
    refine WO_nil ?_
    show WC E _ _ _
    refine WC_ret ?_
    show BodyQ _ _ _ _ _
    refine fin1 rfl ex_ret rfl get_hit ?_
    rw [Nat.pow_zero, Nat.div_one]
    obtain ⟨q3, m3, h3, h4⟩ := Lim.rd hr1 m' 11
    exact ⟨q3, m3, h3, h4⟩
end Go.Ab.T
/- nat.long. -/
open Go Go.Ab
namespace Go.Ab.T
set_option maxRecDepth 10000
set_option maxHeartbeats 2000000
set_option linter.unusedSimpArgs false
attribute [local irreducible] Tr.get Tr.set

theorem nat_long {A B : List Nat} {p q : PV} (h : Lim A p) (h' : Lim B q) (hoA : Ok A) (hoB : Ok B) (hlA : A.length < 300000) (hlB : 2 ≤ B.length) (hBA : B.length ≤ A.length) (hT : Trm B = true) :
    ∃ v, (∃ r1 r2, v = .tup [r1, r2] ∧ Lim (lm (nv A / nv B)) r1 ∧ Lim (lm (nv A % nv B)) r2) ∧ ∀ m, Ev E 236 [p, q] m v m := by
  refine Ev_isoE rfl rfl rfl (flats2 h.flat h'.flat) (fn := Go.Proofs.Tryz.f236) rfl rfl rfl ?_
  show WC E _ ⟨(Tr.leaf.set 0 p).set 1 q, 103, _, _⟩ _
  obtain ⟨top, htop⟩ : ∃ x, B[B.length - 1]? = some x := ⟨_, List.getElem?_eq_getElem (by omega)⟩
  have htop2 : top < 4294967296 := hoB.get htop
  have htop0 : top ≠ 0 := fun e => by
    have := hT
    unfold Trm at this
    rw [List.getLast?_eq_getElem?, htop, e] at this
    cases this
  obtain ⟨k, hk, hk2, hk3, hk4⟩ := bits_LeadingZeros32 htop2 htop0
  have h31 := pow31 hk
  -- the shifted rows
  have hfitA : nv A * 2 ^ k < BB ^ (A.length + 1) := by
    have := nv_lt hoA
    rw [Nat.pow_succ]
    have h2 : 2 ^ k ≤ BB := by rw [BB_eq]; omega
    have h3 := Nat.mul_le_mul_left (BB ^ A.length) h2
    have h4 := Nat.mul_le_mul_right (2 ^ k) (show nv A + 1 ≤ BB ^ A.length from this)
    rw [Nat.add_mul, Nat.one_mul] at h4
    have h5 : 0 < 2 ^ k := Nat.pow_pos (by decide)
    omega
  have hBtop : nv B = nv (B.take (B.length - 1)) + BB ^ (B.length - 1) * top := by
    have := nv_take_succ htop
    rw [show B.length - 1 + 1 = B.length by omega, List.take_length] at this
    exact this
  have hlow := nv_lt (hoB.take (B.length - 1))
  rw [List.length_take, Nat.min_eq_left (by omega)] at hlow
  have hpB : BB ^ B.length = BB ^ (B.length - 1) * 4294967296 := by
    rw [← BB_eq, ← Nat.pow_succ, show (B.length - 1).succ = B.length by omega]
  have htk : top * 2 ^ k + 2 ^ k ≤ 4294967296 := by
    have e1 : (4294967296 : Nat) = 2 ^ (32 - k) * 2 ^ k := by rw [← Nat.pow_add, show 32 - k + k = 32 by omega]
    rw [e1] at hk3 ⊢
    have : top < 2 ^ (32 - k) := Nat.lt_of_mul_lt_mul_right hk3
    have := Nat.mul_le_mul_right (2 ^ k) (show top + 1 ≤ 2 ^ (32 - k) from this)
    rw [Nat.add_mul, Nat.one_mul] at this
    exact this
  have hfitB : nv B * 2 ^ k < BB ^ B.length := by
    rw [hpB, hBtop]
    have e1 := Nat.mul_le_mul_left (BB ^ (B.length - 1)) htk
    have e2 := Nat.mul_le_mul_right (2 ^ k) (show nv (B.take (B.length - 1)) + 1 ≤ BB ^ (B.length - 1) from hlow)
    rw [Nat.mul_add] at e1
    rw [Nat.add_mul, Nat.one_mul] at e2
    rw [Nat.add_mul, Nat.mul_assoc]
    have h5 : 0 < 2 ^ k := Nat.pow_pos (by decide)
    omega
  have hDbig : BB ^ (B.length - 1) * 2147483648 ≤ nv B * 2 ^ k := by
    rw [hBtop, Nat.add_mul, Nat.mul_assoc]
    have := Nat.mul_le_mul_left (BB ^ (B.length - 1)) hk2
    omega
  obtain ⟨q5, m1, h5, U0, hq5, u1, u2, u3, u4, u5, u6⟩ := nat_left (n := A.length + 1) h hoA hk (by omega) (by omega) hfitA PM.empty
  have hq5' : q5 = .msl 0 0 0 (A.length + 1) 1 := hq5
  subst hq5'
  have u1 : m1.get 0 = some (.cells (cu U0) 0 false 68) := u1
  have u2 : m1.next = 1 := u2
  obtain ⟨q6, m2, h6, D, hq6, d1, d2, d3, d4, d5, d6⟩ := nat_left (n := B.length) h' hoB hk (by omega) (by omega) hfitB m1
  rw [u2] at hq6 d1 d2 d3
  subst hq6
  have u1' : m2.get 0 = some (.cells (cu U0) 0 false 68) := by rw [d3 0 (by decide)]; exact u1
  repeat first | refine WC_seq ?_ | refine WC_block ?_ | refine WC_region ?_
  (apply WO_as (hn := rfl); exact lk; apply WO_as (hn := rfl); exact lk)
  refine WO_nil ?_; show WC E _ _ _; repeat first | refine WC_seq ?_ | refine WC_block ?_ | refine WC_region ?_
  (apply WO_mv (hn := rfl); exact lk; apply WO_mv (hn := rfl); exact lk; apply WO_b1 (hn := rfl) (hb := rfl); exact lk; exact nk; apply WO_bin (hn := rfl); exact lk; exact lk; exact bk)
  apply WO_ia (hn := rfl)
  exact lk
  exact lk
  · rw [show (B.length : Int) - 1 = ((B.length - 1 : Nat) : Int) by omega]
    exact ia_lim ty34 h' (by omega)
  apply WO_ld (hn := rfl)
  exact lk
  · exact ld_lim ty68 htop
  apply WO_ca (hn := rfl) (.int .i64 (k : Int)) PM.empty
  · exact evs1 lk
  · exact hk4 _
  (apply WO_cv (hn := rfl); exact lk; exact rfl; exact rfl; exact ck; apply WO_as (hn := rfl); exact lk)
  refine WO_nil ?_; show WC E _ _ _; repeat first | refine WC_seq ?_ | refine WC_block ?_ | refine WC_region ?_
  (apply WO_mv (hn := rfl); exact lk; apply WO_mv (hn := rfl); exact lk; apply WO_mv (hn := rfl); exact lk; apply WO_b1 (hn := rfl) (hb := rfl); exact lk; exact nk; apply WO_bin (hn := rfl); exact lk; exact lk; exact bk)
  apply WO_ca (hn := rfl) (.msl 0 0 0 (A.length + 1) 1) m1
  · apply evs3
    exact lk
    exact lk
    exact lk
  · exact h5
  (apply WO_mv (hn := rfl); exact lk; apply WO_mv (hn := rfl); exact lk; apply WO_mv (hn := rfl); exact lk; apply WO_b1 (hn := rfl) (hb := rfl); exact lk; exact nk)
  apply WO_ca (hn := rfl) (.msl 1 0 0 B.length 1) m2
  · apply evs3
    exact lk
    exact lk
    exact lk
  · exact h6
  (apply WO_as (hn := rfl); exact lk; apply WO_as (hn := rfl); exact lk)
  refine WO_nil ?_; show WC E _ _ _; repeat first | refine WC_seq ?_ | refine WC_block ?_ | refine WC_region ?_
  (apply WO_mv (hn := rfl); exact lk; apply WO_b1 (hn := rfl) (hb := rfl); exact lk; exact nk; apply WO_as (hn := rfl); exact lk)
  refine WO_nil ?_; show WC E _ _ _; repeat first | refine WC_seq ?_ | refine WC_block ?_ | refine WC_region ?_
  (apply WO_mv (hn := rfl); exact lk; apply WO_b1 (hn := rfl) (hb := rfl); exact lk; exact nk; apply WO_mv (hn := rfl); exact lk; apply WO_bin (hn := rfl); exact lk; exact lk; exact bk; apply WO_bin (hn := rfl); exact lk; exact lk; exact bk)
  apply WO_mk (hn := rfl)
  exact lk
  exact lk
  · rw [show (A.length : Int) - (B.length : Int) + 1 = ((A.length - B.length + 1 : Nat) : Int) by omega]
    exact mk_msl ty34 (n := A.length - B.length + 1) (by omega)
  rw [d2]
  (apply WO_as (hn := rfl); exact lk)
  refine WO_nil ?_; show WC E _ _ _; repeat first | refine WC_seq ?_ | refine WC_block ?_ | refine WC_region ?_
  (apply WO_mv (hn := rfl); exact lk; apply WO_b1 (hn := rfl) (hb := rfl); exact lk; exact nk; apply WO_bin (hn := rfl); exact lk; exact lk; exact bk; apply WO_as (hn := rfl); exact lk)
  refine WO_nil ?_; show WC E _ _ _; repeat first | refine WC_seq ?_ | refine WC_block ?_ | refine WC_region ?_
  have hDlt : nv D < BB ^ B.length := by rw [← d4]; exact nv_lt d5
  have hDv : nv D = nv B * 2 ^ k := d6
  -- at the start
  have hstart : nv (U0.drop (A.length - B.length + 1)) < nv D := by
    have e1 := nv_split U0 (A.length - B.length + 1) (by omega)
    have e2 : nv A * 2 ^ k < BB ^ (A.length - B.length + 1) * (BB ^ (B.length - 1) * 2147483648) := by
      rw [← Nat.mul_assoc, ← Nat.pow_add, show A.length - B.length + 1 + (B.length - 1) = A.length by omega]
      have := nv_lt hoA
      have h4 := Nat.mul_le_mul_right (2 ^ k) (show nv A + 1 ≤ BB ^ A.length from this)
      have h3 := Nat.mul_le_mul_left (BB ^ A.length) h31
      rw [Nat.add_mul, Nat.one_mul] at h4
      have h5 : 0 < 2 ^ k := Nat.pow_pos (by decide)
      omega
    have e3 : nv (U0.drop (A.length - B.length + 1)) < BB ^ (B.length - 1) * 2147483648 := by
      refine Nat.lt_of_mul_lt_mul_left (a := BB ^ (A.length - B.length + 1)) ?_
      omega
    omega
  refine WC_loop (fun j s => ∃ (tm : Tr PV) (me : PM) (U Q : List Nat), s = ⟨tm, 103, me, []⟩ ∧ tm.get 6 = some (.int .u64 (k : Int)) ∧ tm.get 7 = some (.msl 0 0 0 (A.length + 1) 1) ∧ tm.get 8 = some (.msl 1 0 0 B.length 1) ∧ tm.get 9 = some (.int .i64 (B.length : Int)) ∧ tm.get 10 = some (.int .i64 ((j : Int) - 1)) ∧ tm.get 4 = some (.msl 2 0 0 (A.length - B.length + 1) 1) ∧
    me.get 0 = some (.cells (cu U) 0 false 68) ∧ me.get 1 = some (.cells (cu D) 0 false 68) ∧ me.get 2 = some (.cells (cu Q) 0 false 68) ∧ U.length = A.length + 1 ∧ Q.length = A.length - B.length + 1 ∧ Ok U ∧ Ok Q ∧ j ≤ A.length - B.length + 1 ∧
    nv A * 2 ^ k = nv D * (BB ^ j * nv (Q.drop j)) + nv U ∧ nv (U.drop j) < nv D) (A.length - B.length + 1)
    ⟨_, _, U0, List.replicate (A.length - B.length + 1) 0, rfl, gk, gk, gk, gk, gk, gk, by rw [PM.get_new, d2]; exact u1', by rw [PM.get_new, d2]; exact d1, by rw [PM.get_new, d2]; exact if_pos rfl, u4, by simp, u5, .replicate, Nat.le_refl _, by simp [nv, u6], hstart⟩ ?_
  rintro j s ⟨tm, me, U, Q, rfl, g6, g7, g8, g9, g10, g4, b0, b1, b2, hU, hQ, hoU, hoQ, hj, hv, hr⟩
  repeat first | refine WC_seq ?_ | refine WC_block ?_ | refine WC_region ?_
  (apply WO_mv (hn := rfl); exact lk; apply WO_bin (hn := rfl); exact lk; exact lk; exact bk)
  refine WO_nil ?_; show WC E _ _ _; repeat first | refine WC_seq ?_ | refine WC_block ?_ | refine WC_region ?_
  apply WC_cond; (focus (apply condOf_t; (focus (first | (apply evo_t; (repeat (first | exact get_hit | assumption | refine get_miss rfl ?_ | fail)); done) | (exact rfl) | fail))))
  · intro hlt
    have hlt : j ≠ 0 := by simp only [decide_eq_true_eq] at hlt; omega
    have hjj : (j : Int) - 1 = ((j - 1 : Nat) : Int) := by omega
    rw [hjj] at g10 ⊢
    obtain ⟨i, rfl⟩ : ∃ i, j = i + 1 := ⟨j - 1, by omega⟩
    rw [Nat.add_sub_cancel] at g10 ⊢
    clear hjj hstart
    obtain ⟨e, he⟩ : ∃ e, B.length = e + 2 := ⟨B.length - 2, by omega⟩
    obtain ⟨w1, w2, w3⟩ := long_win (n := B.length) hoU hU (by omega) hDlt hr
    obtain ⟨hi, hhi⟩ : ∃ x, U[i + e + 2]? = some x := ⟨_, List.getElem?_eq_getElem (by omega)⟩
    obtain ⟨mid, hmid⟩ : ∃ x, U[i + e + 1]? = some x := ⟨_, List.getElem?_eq_getElem (by omega)⟩
    obtain ⟨low, hlow3⟩ : ∃ x, U[i + e]? = some x := ⟨_, List.getElem?_eq_getElem (by omega)⟩
    obtain ⟨c1, hc1⟩ : ∃ x, D[e + 1]? = some x := ⟨_, List.getElem?_eq_getElem (by omega)⟩
    obtain ⟨c2, hc2⟩ : ∃ x, D[e]? = some x := ⟨_, List.getElem?_eq_getElem (by omega)⟩
    have l1 : hi < 4294967296 := hoU.get hhi
    have l2 : mid < 4294967296 := hoU.get hmid
    have l3 : low < 4294967296 := hoU.get hlow3
    have l4 : c1 < 4294967296 := d5.get hc1
    have l5 : c2 < 4294967296 := d5.get hc2
    have hwl : ((U.drop i).take (B.length + 1)).length = e + 3 := by rw [List.length_take, List.length_drop]; omega
    have wget : ∀ t, t < e + 3 → ((U.drop i).take (B.length + 1))[t]? = U[i + t]? := fun t ht => by
      rw [List.getElem?_take_of_lt (by omega), List.getElem?_drop]
    have hW := top3 hwl (by rw [wget _ (by omega)]; exact hhi) (by rw [wget _ (by omega)]; exact hmid) (by rw [wget _ (by omega)]; exact hlow3)
    have hDD := top2 (by omega) hc1 hc2
    have hlw := nv_lt ((show Ok ((U.drop i).take (B.length + 1)) from (hoU.drop i).take _).take e)
    rw [List.length_take, hwl, Nat.min_eq_left (by omega)] at hlw
    have hld := nv_lt (d5.take e)
    rw [List.length_take, Nat.min_eq_left (by omega)] at hld
    have hnW : nv ((U.drop i).take (B.length + 1)) < 4294967296 * nv D := by rw [← w2]; exact w3
    have hc1big : 2147483648 ≤ c1 := by
      have e1 := hDbig
      rw [← hDv, show B.length - 1 = e + 1 by omega] at e1
      have e2 : nv D = nv (D.take (e + 1)) + BB ^ (e + 1) * c1 := by
        rw [← nv_take_succ hc1, nv_take_all (by omega)]
      have e3 := nv_lt (d5.take (e + 1))
      rw [List.length_take, Nat.min_eq_left (by omega)] at e3
      have e4 : BB ^ (e + 1) * 2147483648 < BB ^ (e + 1) * (c1 + 1) := by rw [Nat.mul_add, Nat.mul_one]; omega
      have := Nat.lt_of_mul_lt_mul_left e4
      omega
    have hu : hi * 4294967296 + mid ≤ 4294967296 * c1 + 4294967295 := by
      have e4 : BB ^ e * ((hi * 4294967296 + mid) * 4294967296 + low) < BB ^ e * (4294967296 * (c1 * 4294967296 + c2 + 1)) := by
        rw [Nat.mul_left_comm (BB ^ e) 4294967296, Nat.mul_add (BB ^ e) (c1 * 4294967296 + c2) 1, Nat.mul_one]
        omega
      exact kn_hu (Nat.lt_of_mul_lt_mul_left e4) l5
    obtain ⟨x, x1, x2, x3, x4⟩ := nat_guess (u := hi * 4294967296 + mid) rfl l1 l2 l3 l4 l5 hc1big hu
    obtain ⟨t1, t2⟩ := kn_guess hW hlw hDD hld (by omega) x1 x2 x3 hnW
    have hUsplit : U = U.take i ++ ((U.drop i).take (B.length + 1) ++ U.drop (i + (B.length + 1))) := by
      rw [← List.drop_drop, List.take_append_drop, List.take_append_drop]
    have hpre : (U.take i).length = i := by rw [List.length_take]; omega
    have hb0 := b0
    rw [hUsplit] at hb0
    obtain ⟨v, m', y1, t, w', rfl, y2, y3, y4, y5, y6, y7, y8, y9⟩ := nat_takes (pre := U.take i) (w := (U.drop i).take (B.length + 1)) (post := U.drop (i + (B.length + 1))) (d := D) (q := x) hb0 b1 (by decide) (by omega) ((hoU.drop i).take _) d5 x1 t1 t2 (by rw [hpre, hwl, List.length_drop]; omega)
    rw [hpre, d4] at y1
    rw [hwl] at y5
    have hpow : BB ^ (i + 1) = BB ^ i * 4294967296 := by rw [Nat.pow_succ]; rfl
    generalize hqq : (if t = true then x - 1 else x) = q' at *
    have hq2 : q' < 4294967296 := by
      refine Nat.lt_of_mul_lt_mul_right (a := nv D) ?_
      omega
    refine WC_skip ?_
    show WC E _ _ _; repeat first | refine WC_seq ?_ | refine WC_block ?_ | refine WC_region ?_
    (apply WC_draw; (focus exact rfl))
    (apply WD_mv (hn := rfl); exact lk; apply WD_mv (hn := rfl); exact lk; apply WD_mv (hn := rfl); exact lk; apply WD_bin (hn := rfl); exact lk; exact lk; exact bk)
    apply WD_ia (hn := rfl)
    exact lk
    exact lk
    · rw [show (i : Int) + (B.length : Int) = ((i + e + 2 : Nat) : Int) by omega]
      exact ia_msl ty34 (by omega)
    apply WD_ld (hn := rfl)
    exact lk
    · exact ty68
    · rw [Nat.zero_add]; exact ld_msl rfl b0 hhi
    (apply WD_mv (hn := rfl); exact lk; apply WD_mv (hn := rfl); exact lk; apply WD_mv (hn := rfl); exact lk; apply WD_bin (hn := rfl); exact lk; exact lk; exact bk; apply WD_bin (hn := rfl); exact lk; exact lk; exact bk)
    apply WD_ia (hn := rfl)
    exact lk
    exact lk
    · rw [show (i : Int) + (B.length : Int) - 1 = ((i + e + 1 : Nat) : Int) by omega]
      exact ia_msl ty34 (by omega)
    apply WD_ld (hn := rfl)
    exact lk
    · exact ty68
    · rw [Nat.zero_add]; exact ld_msl rfl b0 hmid
    (apply WD_mv (hn := rfl); exact lk; apply WD_mv (hn := rfl); exact lk; apply WD_mv (hn := rfl); exact lk; apply WD_bin (hn := rfl); exact lk; exact lk; exact bk; apply WD_bin (hn := rfl); exact lk; exact lk; exact bk)
    apply WD_ia (hn := rfl)
    exact lk
    exact lk
    · rw [show (i : Int) + (B.length : Int) - 2 = ((i + e : Nat) : Int) by omega]
      exact ia_msl ty34 (by omega)
    apply WD_ld (hn := rfl)
    exact lk
    · exact ty68
    · rw [Nat.zero_add]; exact ld_msl rfl b0 hlow3
    (apply WD_mv (hn := rfl); exact lk; apply WD_mv (hn := rfl); exact lk; apply WD_bin (hn := rfl); exact lk; exact lk; exact bk)
    apply WD_ia (hn := rfl)
    exact lk
    exact lk
    · rw [show (B.length : Int) - 1 = ((e + 1 : Nat) : Int) by omega]
      exact ia_msl ty34 (by omega)
    apply WD_ld (hn := rfl)
    exact lk
    · exact ty68
    · rw [Nat.zero_add]; exact ld_msl rfl b1 hc1
    (apply WD_mv (hn := rfl); exact lk; apply WD_mv (hn := rfl); exact lk; apply WD_bin (hn := rfl); exact lk; exact lk; exact bk)
    apply WD_ia (hn := rfl)
    exact lk
    exact lk
    · rw [show (B.length : Int) - 2 = ((e : Nat) : Int) by omega]
      exact ia_msl ty34 (by omega)
    apply WD_ld (hn := rfl)
    exact lk
    · exact ty68
    · rw [Nat.zero_add]; exact ld_msl rfl b1 hc2
    apply WD_pu (hn := rfl)
    · apply evs5
      exact lk
      exact lk
      exact lk
      exact lk
      exact lk
    · exact x4 me
    · exact rfl
    (apply WD_as (hn := rfl); exact lk)
    refine WD_nil ⟨rfl, ?_⟩
    show WC E _ _ _
    repeat first | refine WC_seq ?_ | refine WC_block ?_ | refine WC_region ?_
    (apply WO_mv (hn := rfl); exact lk; apply WO_mv (hn := rfl); exact lk; apply WO_mv (hn := rfl); exact lk; apply WO_mv (hn := rfl); exact lk; apply WO_bin (hn := rfl); exact lk; exact lk; exact bk; apply WO_bin (hn := rfl); exact lk; exact lk; exact bk)
    apply WO_sl (hn := rfl)
    exact lk
    · exact evopt_s lk
    · exact evopt_s lk
    · exact rfl
    · rw [show (i : Int) + (B.length : Int) + 1 = ((i + B.length + 1 : Nat) : Int) from rfl]
      exact sl_msl ty34 (by omega) (by omega)
    rw [show 0 + i = i by omega, show i + B.length + 1 - i = B.length + 1 by omega]
    (apply WO_mv (hn := rfl); exact lk; apply WO_mv (hn := rfl); exact lk)
    apply WO_ca (hn := rfl) (.bool t) m'
    · apply evs3
      exact lk
      exact lk
      exact lk
    · exact y1
    refine WO_nil ?_
    show WC E _ _ _
    repeat first | refine WC_seq ?_ | refine WC_block ?_ | refine WC_region ?_
    have b1' : m'.get 1 = some (.cells (cu D) 0 false 68) := by rw [y3 1 (by decide)]; exact b1
    have b2' : m'.get 2 = some (.cells (cu Q) 0 false 68) := by rw [y3 2 (by decide)]; exact b2
    refine WC.mono (Q := fun xx s' => xx = .nrm ∧ ∃ (tm : Tr PV), s' = ⟨tm, 103, m', []⟩ ∧ tm.get 6 = some (.int .u64 (k : Int)) ∧ tm.get 7 = some (.msl 0 0 0 (A.length + 1) 1) ∧ tm.get 8 = some (.msl 1 0 0 B.length 1) ∧ tm.get 9 = some (.int .i64 (B.length : Int)) ∧ tm.get 10 = some (.int .i64 (i : Int)) ∧ tm.get 4 = some (.msl 2 0 0 (A.length - B.length + 1) 1) ∧ tm.get 11 = some (.int .u64 (q' : Int))) ?_ ?_
    · apply WC_cond; (focus (apply condOf_t; (focus (first | (apply evo_t; (repeat (first | exact get_hit | assumption | refine get_miss rfl ?_ | fail)); done) | (exact rfl) | fail))))
      · intro ht
        have hx1 := y8 ht
        rw [if_pos ht] at hqq
        subst hqq
        repeat first | refine WC_seq ?_ | refine WC_block ?_ | refine WC_region ?_
        (apply WO_mv (hn := rfl); exact lk; apply WO_bin (hn := rfl); exact lk; exact lk; exact bk; apply WO_as (hn := rfl); exact lk)
        exact WO_nil ⟨rfl, _, rfl, gk, gk, gk, gk, gk, gk, gk⟩
      · intro ht
        rw [if_neg (by rw [ht]; decide)] at hqq
        subst hqq
        exact WC_skip ⟨rfl, _, rfl, gk, gk, gk, gk, gk, gk, gk⟩
    clear g6 g7 g8 g9 g10 g4
    rintro _ _ ⟨rfl, tm2, rfl, g6, g7, g8, g9, g10, g4, g11⟩
    show WC E _ _ _; repeat first | refine WC_seq ?_ | refine WC_block ?_ | refine WC_region ?_
    (apply WO_mv (hn := rfl); exact lk; apply WO_mv (hn := rfl); exact lk; apply WO_mv (hn := rfl); exact lk; apply WO_cv (hn := rfl); exact lk; exact rfl; exact rfl; exact ck)
    rw [show q' % 4294967296 = q' from Nat.mod_eq_of_lt hq2]
    apply WO_ia (hn := rfl)
    exact lk
    exact lk
    · exact ia_msl ty34 (by omega)
    apply WO_st
    exact lk
    exact lk
    · rw [Nat.zero_add]; exact st_msl ty68 b2' (by omega)
    refine WO_nil ?_; show WC E _ _ _; repeat first | refine WC_seq ?_ | refine WC_block ?_ | refine WC_region ?_
    (apply WO_mv (hn := rfl); exact lk; apply WO_bin (hn := rfl); exact lk; exact lk; exact bk; apply WO_as (hn := rfl); exact lk)
    refine WO_nil ?_
    refine ⟨i, by omega, _, _, U.take i ++ (w' ++ U.drop (i + (B.length + 1))), Q.set i q', rfl, gk, gk, gk, gk, gk, gk, by rw [PM.get_upd, if_neg (by decide)]; exact y2, by rw [PM.get_upd, if_neg (by decide)]; exact b1', by rw [PM.get_upd, if_pos rfl], ?_, by simpa using hQ, ?_, hoQ.set hq2, by omega, ?_, ?_⟩
    · rw [List.length_append, List.length_append, hpre, y5, List.length_drop]; omega
    · exact (hoU.take i).append (y6.append (hoU.drop _))
    · have e1 : (Q.set i q')[i]? = some q' := List.getElem?_set_self (by omega)
      have e2 := nv_drop e1
      rw [drop_set_of_lt (show i < i + 1 by omega)] at e2
      have e3 : nv U = nv (U.take i) + BB ^ i * nv ((U.drop i).take (B.length + 1)) := by
        conv => lhs; rw [nv_split U i (by omega)]
        rw [w2]
      have e4 : nv (U.take i ++ (w' ++ U.drop (i + (B.length + 1)))) = nv (U.take i) + BB ^ i * nv w' := by
        rw [nv_append, nv_append, w1, Nat.mul_zero, Nat.add_zero, hpre]
      have e5 : nv D * (BB ^ i * (q' + BB * nv (Q.drop (i + 1)))) = BB ^ i * (q' * nv D) + nv D * (BB ^ (i + 1) * nv (Q.drop (i + 1))) := by
        rw [Nat.mul_add, Nat.mul_add, Nat.mul_left_comm (nv D) (BB ^ i) q', Nat.mul_comm (nv D) q', Nat.pow_succ, Nat.mul_assoc (BB ^ i) BB]
      have e6 : BB ^ i * nv ((U.drop i).take (B.length + 1)) = BB ^ i * nv w' + BB ^ i * (q' * nv D) := by rw [y9, Nat.mul_add]
      rw [e4, e2, e5, hv, e3, e6]
      omega
    · rw [List.drop_append_of_le_length (by omega), List.drop_eq_nil_of_le (by omega), List.nil_append, nv_append, w1, Nat.mul_zero, Nat.add_zero]
      exact y7
  · intro hlt
    have hlt : j = 0 := by simp only [decide_eq_false_iff_not] at hlt; omega
    subst hlt
    clear hstart
    rw [List.drop_zero, Nat.pow_zero, Nat.one_mul] at hv
    rw [List.drop_zero] at hr
    have h2k : 0 < 2 ^ k := Nat.pow_pos (by decide)
    have eU : nv (U.take B.length) = nv U := by
      have e1 := nv_split U B.length (by omega)
      have : nv (U.drop B.length) = 0 := by
        refine Nat.eq_zero_of_not_pos fun hp => ?_
        have := Nat.mul_le_mul_left (BB ^ B.length) (show 1 ≤ nv (U.drop B.length) from hp)
        omega
      rw [this] at e1
      omega
    have eQ : nv Q = nv A / nv B := by
      have e1 : nv A * 2 ^ k / (nv B * 2 ^ k) = nv Q := by
        rw [hv, ← hDv, Nat.mul_add_div (by omega), Nat.div_eq_of_lt hr, Nat.add_zero]
      rw [← e1, Nat.mul_div_mul_right _ _ h2k]
    have eR : nv U / 2 ^ k = nv A % nv B := by
      have e1 : nv A * 2 ^ k % (nv B * 2 ^ k) = nv U := by
        rw [hv, ← hDv, Nat.mul_add_mod, Nat.mod_eq_of_lt hr]
      rw [← e1, Nat.mul_mod_mul_right, Nat.mul_div_cancel _ h2k]
    obtain ⟨r1, hr1, hr1'⟩ := nat_trim (a := Q) (.inr ⟨none, rfl⟩) hoQ (by omega)
    rw [eQ] at hr1
    obtain ⟨m3, z1, z2, z3⟩ := ev_msl2 (f := 176) (off := 0) (n := A.length - B.length + 1) (xs := []) rfl rfl rfl b2 (by omega) rfl (by rw [List.drop_zero, List.take_of_length_le (by omega), ← hQ]; exact hr1' me)
    obtain ⟨r2, hr2, hr2'⟩ := nat_Shift (a := U.take B.length) (k := k) (.inr ⟨none, by rw [List.length_take, Nat.min_eq_left (by omega)]⟩) (hoU.take _) (by rw [List.length_take]; omega) hk
    rw [eU, eR] at hr2
    obtain ⟨m4, z4, z5, z6⟩ := ev_msl2 (f := 287) (off := 0) (n := B.length) (xs := [.int .i64 (-(k : Int))]) (m := m3) rfl rfl rfl (by rw [z3 0 (by decide)]; exact b0) (by omega) rfl (by rw [List.drop_zero]; exact hr2' m3)
    refine WC_exit ?_
    show WC E _ _ _; repeat first | refine WC_seq ?_ | refine WC_block ?_ | refine WC_region ?_
    (apply WC_draw; (focus exact rfl))
    (apply WD_mv (hn := rfl); exact lk)
    apply WD_ca (hn := rfl)
    · exact evs1 lk
    · exact z1
    · exact rfl
    (apply WD_mv (hn := rfl); exact lk; apply WD_mv (hn := rfl); exact lk)
    apply WD_sl (hn := rfl)
    exact lk
    · exact rfl
    · exact evopt_s lk
    · exact rfl
    · exact sl_msl_hi ty34 (by omega)
    (apply WD_mv (hn := rfl); exact lk; apply WD_cv (hn := rfl); exact lk; exact rfl; exact rfl; exact ck)
    apply WD_un (hn := rfl)
    exact lk
    · exact u_negI (by omega) (by omega)
    apply WD_ca (hn := rfl)
    · apply evs2
      exact lk
      exact lk
    · exact z4
    · exact rfl
    (apply WD_as (hn := rfl); exact lk; apply WD_as (hn := rfl); exact lk)
    refine WD_nil ⟨rfl, ?_⟩
    show WC E _ _ _
    refine WC_ret ?_
    show BodyQ _ _ _ _ _
    refine fin2 rfl ex_ret rfl gk gk ?_
    exact ⟨_, m4, reify_t2 hr1.flat hr2.flat, r1, r2, rfl, hr1, hr2⟩
end Go.Ab.T
/- nat.DivMod, nat.Gcd. -/
open Go Go.Ab
namespace Go.Ab.T
set_option maxRecDepth 10000
set_option maxHeartbeats 2000000
set_option linter.unusedSimpArgs false
attribute [local irreducible] Tr.get Tr.set

/-- the end of a function that returns three temporaries -/
theorem fin3 {fn : Func} {t u z : Nat} {v w y : PV} {R : PV → PM → Prop} (hr : fn.results.toList = [.tmp t, .tmp u, .tmp z]) {x : Ex} (hx : ∀ i, x ≠ .exit i) {s : St} (hd : s.df = []) (h : s.tm.get t = some v) (h' : s.tm.get u = some w) (h'' : s.tm.get z = some y) (hR : R (.tup [v, w, y]) s.me) : BodyQ E fn R x s := by
  refine ⟨hx, by rw [hd]; rfl, [v, w, y], ?_, hR⟩
  rw [hr]
  simp only [resultsOf, evo_t h, evo_t h', evo_t h'']

theorem nat_DivMod {a b : List Nat} {p q : PV} (h : Lim a p) (h' : Lim b q) (ho : Ok a) (ho' : Ok b) (hl : a.length < 300000) (hl' : b.length < 300000) (hy0 : nv b ≠ 0) :
    ∃ r1 r2, Lim (lm (nv a / nv b)) r1 ∧ Lim (lm (nv a % nv b)) r2 ∧ ∀ m, Ev E 175 [p, q] m (.tup [r1, r2, .bool true]) m := by
  suffices hh : ∃ v, (∃ r1 r2, v = .tup [r1, r2, .bool true] ∧ Lim (lm (nv a / nv b)) r1 ∧ Lim (lm (nv a % nv b)) r2) ∧ ∀ m, Ev E 175 [p, q] m v m by
    obtain ⟨v, ⟨r1, r2, rfl, k1, k2⟩, k3⟩ := hh
    exact ⟨r1, r2, k1, k2, k3⟩
  obtain ⟨pA, hA, hp2⟩ := nat_trim h ho (by omega)
  obtain ⟨pB, hB, hq2⟩ := nat_trim h' ho' (by omega)
  have hla : (lm (nv a)).length < 300000 := Nat.lt_of_le_of_lt (lm_le ho) hl
  have hlb : (lm (nv b)).length < 300000 := Nat.lt_of_le_of_lt (lm_le ho') hl'
  generalize hx : nv a = x at *
  generalize hy : nv b = y at *
  have hoA := ok_lm x
  have hoB := ok_lm y
  have hxA := nv_lm x
  have hyB := nv_lm y
  have hBne : (lm y).length ≠ 0 := fun e => hy0 (lm_nil.1 (List.length_eq_zero_iff.1 e))
  have hcmp := nat_Cmp hA hB hoA hoB (by omega) (by omega)
  rw [hxA, hyB] at hcmp
  refine Ev_isoE rfl rfl rfl (flats2 h.flat h'.flat) (fn := Go.Proofs.Tryz.f175) rfl rfl rfl ?_
  show WC E _ ⟨(Tr.leaf.set 0 p).set 1 q, 48, _, _⟩ _
  repeat first | refine WC_seq ?_ | refine WC_block ?_ | refine WC_region ?_
  (apply WO_as (hn := rfl); exact lk; apply WO_as (hn := rfl); exact lk; apply WO_as (hn := rfl); exact lk)
  refine WO_nil ?_; show WC E _ _ _; repeat first | refine WC_seq ?_ | refine WC_block ?_ | refine WC_region ?_
  (apply WO_mv (hn := rfl); exact lk)
  apply WO_ca (hn := rfl) pA PM.empty
  · exact evs1 lk
  · exact hp2 _
  (apply WO_mv (hn := rfl); exact lk)
  apply WO_ca (hn := rfl) pB PM.empty
  · exact evs1 lk
  · exact hq2 _
  (apply WO_as (hn := rfl); exact lk; apply WO_as (hn := rfl); exact lk)
  refine WO_nil ?_; show WC E _ _ _; repeat first | refine WC_seq ?_ | refine WC_block ?_ | refine WC_region ?_
  (apply WO_mv (hn := rfl); exact lk; apply WO_b1 (hn := rfl) (hb := rfl); exact lk; exact nk; apply WO_bin (hn := rfl); exact lk; exact lk; exact bk; apply WO_as (hn := rfl); exact lk)
  refine WO_nil ?_
  show WC E _ _ _
  apply WC_cond
  · apply condOf_t
    exact lk
  · intro hc
    simp only [decide_eq_true_eq] at hc
    exact absurd hc (by omega)
  intro _
  repeat first | refine WC_seq ?_ | refine WC_block ?_ | refine WC_region ?_
  (apply WO_mv (hn := rfl); exact lk; apply WO_mv (hn := rfl); exact lk)
  apply WO_ca (hn := rfl) (.int .i64 (cmpI x y)) PM.empty
  · apply evs2
    exact lk
    exact lk
  · exact hcmp _
  (apply WO_bin (hn := rfl); exact lk; exact lk; exact bk; apply WO_as (hn := rfl); exact lk)
  refine WO_nil ?_
  show WC E _ _ _
  apply WC_cond; (focus (apply condOf_t; (focus (first | (apply evo_t; (repeat (first | exact get_hit | assumption | refine get_miss rfl ?_ | fail)); done) | (exact rfl) | fail))))
  · intro hc
    have hlt : x < y := by
      unfold cmpI at hc
      split at hc
      · assumption
      · split at hc <;> simp at hc
    obtain ⟨r, hr1, hr2⟩ := nat_Trim hA hoA (by omega)
    rw [hxA] at hr1
    repeat first | refine WC_seq ?_ | refine WC_block ?_ | refine WC_region ?_
    (apply WO_mv (hn := rfl); exact lk)
    apply WO_ca (hn := rfl) r PM.empty
    · exact evs1 lk
    · exact hr2 _
    (apply WO_as (hn := rfl); exact lk; apply WO_as (hn := rfl); exact lk; apply WO_as (hn := rfl); exact lk)
    refine WO_nil ?_
    show WC E _ _ _
    refine WC_ret ?_
    show BodyQ _ _ _ _ _
    refine fin3 rfl ex_ret rfl gk gk gk ?_
    exact ⟨_, PM.empty, reify_t3 rfl hr1.flat rfl, .nils, r, rfl, by rw [Nat.div_eq_of_lt hlt, lm_zero]; exact .inl ⟨rfl, rfl⟩, by rw [Nat.mod_eq_of_lt hlt]; exact hr1⟩
  · intro hc
    have hge : y ≤ x := by
      refine Nat.le_of_not_lt fun hh => ?_
      unfold cmpI at hc
      rw [if_pos hh] at hc
      simp at hc
    clear hc
    repeat first | refine WC_seq ?_ | refine WC_block ?_ | refine WC_region ?_
    (apply WO_mv (hn := rfl); exact lk; apply WO_b1 (hn := rfl) (hb := rfl); exact lk; exact nk; apply WO_bin (hn := rfl); exact lk; exact lk; exact bk; apply WO_as (hn := rfl); exact lk)
    refine WO_nil ?_
    show WC E _ _ _
    apply WC_cond; (focus (apply condOf_t; (focus (first | (apply evo_t; (repeat (first | exact get_hit | assumption | refine get_miss rfl ?_ | fail)); done) | (exact rfl) | fail))))
    · intro hc
      have hB1 : (lm y).length = 1 := by simp only [decide_eq_true_eq] at hc; omega
      obtain ⟨w, hw⟩ : ∃ w, lm y = [w] := List.length_eq_one_iff.1 hB1
      have hwy : w = y := by rw [← hyB, hw]; simp [nv]
      have hwB : w < 4294967296 := hoB w (by rw [hw]; simp)
      obtain ⟨r1, s1, s2⟩ := nat_small hA hoA (by omega) (show w ≠ 0 by omega) hwB
      rw [hxA, hwy] at s1 s2
      have hrm : x % y < 4294967296 := by rw [← hwy]; exact Nat.lt_trans (Nat.mod_lt _ (by omega)) hwB
      obtain ⟨r2, s3, s4⟩ := nat_Of (n := x % y) (by omega)
      repeat first | refine WC_seq ?_ | refine WC_block ?_ | refine WC_region ?_
      (apply WO_mv (hn := rfl); exact lk; apply WO_mv (hn := rfl); exact lk)
      apply WO_ia (hn := rfl)
      exact lk
      · exact rfl
      · exact ia_lim (i := 0) ty34 hB (by omega)
      apply WO_ld (hn := rfl)
      exact lk
      · exact ld_lim (x := y) ty68 (by rw [hw, hwy]; rfl)
      apply WO_ca (hn := rfl) (.tup [r1, .int .u32 ((x % y : Nat) : Int)]) PM.empty
      · apply evs2
        exact lk
        exact lk
      · exact s2 _
      (apply WO_mv (hn := rfl); exact lk; apply WO_ex (hn := rfl); exact lk; exact rfl; apply WO_ex (hn := rfl); exact lk; exact rfl; apply WO_as (hn := rfl); exact lk; apply WO_as (hn := rfl); exact lk)
      refine WO_nil ?_; show WC E _ _ _; repeat first | refine WC_seq ?_ | refine WC_block ?_ | refine WC_region ?_
      (apply WO_mv (hn := rfl); exact lk; apply WO_mv (hn := rfl); exact lk; apply WO_cv (hn := rfl); exact lk; exact rfl; exact rfl; exact ck)
      apply WO_ca (hn := rfl) r2 PM.empty
      · exact evs1 lk
      · exact s4 _
      (apply WO_as (hn := rfl); exact lk; apply WO_as (hn := rfl); exact lk; apply WO_as (hn := rfl); exact lk)
      refine WO_nil ?_
      show WC E _ _ _
      refine WC_ret ?_
      show BodyQ _ _ _ _ _
      refine fin3 rfl ex_ret rfl gk gk gk ?_
      exact ⟨_, PM.empty, reify_t3 s1.flat s3.flat rfl, r1, r2, rfl, s1, s3⟩
    · intro hc
      have hB2 : 2 ≤ (lm y).length := by simp only [decide_eq_false_iff_not] at hc; omega
      obtain ⟨v, ⟨r1, r2, rfl, s1, s2⟩, s3⟩ := nat_long hA hB hoA hoB hla hB2 (lm_mono hge) (trm_lm y)
      rw [hxA, hyB] at s1 s2
      refine WC_skip ?_
      show WC E _ _ _; repeat first | refine WC_seq ?_ | refine WC_block ?_ | refine WC_region ?_
      (apply WO_mv (hn := rfl); exact lk; apply WO_mv (hn := rfl); exact lk)
      apply WO_ca (hn := rfl) (.tup [r1, r2]) PM.empty
      · apply evs2
        exact lk
        exact lk
      · exact s3 _
      (apply WO_mv (hn := rfl); exact lk; apply WO_ex (hn := rfl); exact lk; exact rfl; apply WO_ex (hn := rfl); exact lk; exact rfl; apply WO_as (hn := rfl); exact lk; apply WO_as (hn := rfl); exact lk)
      refine WO_nil ?_; show WC E _ _ _; repeat first | refine WC_seq ?_ | refine WC_block ?_ | refine WC_region ?_
      (apply WO_mv (hn := rfl); exact lk; apply WO_mv (hn := rfl); exact lk; apply WO_as (hn := rfl); exact lk; apply WO_as (hn := rfl); exact lk; apply WO_as (hn := rfl); exact lk)
      refine WO_nil ?_
      show WC E _ _ _
      refine WC_ret ?_
      show BodyQ _ _ _ _ _
      refine fin3 rfl ex_ret rfl gk gk gk ?_
      exact ⟨_, PM.empty, reify_t3 s1.flat s2.flat rfl, r1, r2, rfl, s1, s2⟩

theorem nat_Gcd {a b : List Nat} {p q : PV} (h : Lim a p) (h' : Lim b q) (ho : Ok a) (ho' : Ok b) (hl : a.length < 300000) (hl' : b.length < 300000) : ∃ r, Lim (lm (Nat.gcd (nv a) (nv b))) r ∧ ∀ m, Ev E 174 [p, q] m r m := by
  obtain ⟨pA, hA, hp2⟩ := nat_Trim h ho (by omega)
  obtain ⟨pB, hB, hq2⟩ := nat_Trim h' ho' (by omega)
  have hla : (lm (nv a)).length < 300000 := Nat.lt_of_le_of_lt (lm_le ho) hl
  have hlb : (lm (nv b)).length < 300000 := Nat.lt_of_le_of_lt (lm_le ho') hl'
  generalize hx : nv a = x at *
  generalize hy : nv b = y at *
  refine Ev_isoE rfl rfl rfl (flats2 h.flat h'.flat) (fn := Go.Proofs.Tryz.f174) rfl rfl rfl ?_
  show WC E _ ⟨(Tr.leaf.set 0 p).set 1 q, 25, _, _⟩ _
  repeat first | refine WC_seq ?_ | refine WC_block ?_ | refine WC_region ?_
  (apply WO_as (hn := rfl); exact lk)
  refine WO_nil ?_; show WC E _ _ _; repeat first | refine WC_seq ?_ | refine WC_block ?_ | refine WC_region ?_
  (apply WO_mv (hn := rfl); exact lk)
  apply WO_ca (hn := rfl) pA PM.empty
  · exact evs1 lk
  · exact hp2 _
  (apply WO_mv (hn := rfl); exact lk)
  apply WO_ca (hn := rfl) pB PM.empty
  · exact evs1 lk
  · exact hq2 _
  (apply WO_as (hn := rfl); exact lk; apply WO_as (hn := rfl); exact lk)
  refine WO_nil ?_; show WC E _ _ _; repeat first | refine WC_seq ?_ | refine WC_block ?_ | refine WC_region ?_
  refine WC_loop (fun j s => ∃ (tm : Tr PV) (u : Nat) (pu pv : PV), s = ⟨tm, 25, .empty, []⟩ ∧ tm.get 0 = some pu ∧ tm.get 1 = some pv ∧ Lim (lm u) pu ∧ Lim (lm j) pv ∧ (lm u).length < 300000 ∧ (lm j).length < 300000 ∧ Nat.gcd u j = Nat.gcd x y) y
    ⟨_, x, pA, pB, rfl, gk, gk, hA, hB, hla, hlb, rfl⟩ ?_
  clear hA hB hp2 hq2 hla hlb
  rintro v s ⟨tm, u, pu, pv, rfl, g0, g1, hU, hV, hlu, hlv, hg⟩
  repeat first | refine WC_seq ?_ | refine WC_block ?_ | refine WC_region ?_
  (apply WO_mv (hn := rfl); exact lk; apply WO_b1 (hn := rfl) (hb := rfl); exact lk; exact nk; apply WO_bin (hn := rfl); exact lk; exact lk; exact bk)
  refine WO_nil ?_; show WC E _ _ _; repeat first | refine WC_seq ?_ | refine WC_block ?_ | refine WC_region ?_
  apply WC_cond; (focus (apply condOf_t; (focus (first | (apply evo_t; (repeat (first | exact get_hit | assumption | refine get_miss rfl ?_ | fail)); done) | (exact rfl) | fail))))
  · intro hc
    have hc : 0 < (lm v).length := by simp only [decide_eq_true_eq] at hc; omega
    have hv0 : v ≠ 0 := fun e => by subst e; rw [lm_zero] at hc; simp at hc
    obtain ⟨r1, r2, s1, s2, s3⟩ := nat_DivMod hU hV (ok_lm u) (ok_lm v) hlu hlv (by rw [nv_lm]; exact hv0)
    rw [nv_lm, nv_lm] at s2
    have hmod : u % v < v := Nat.mod_lt _ (by omega)
    refine WC_skip ?_
    show WC E _ _ _; repeat first | refine WC_seq ?_ | refine WC_block ?_ | refine WC_region ?_
    (apply WO_mv (hn := rfl); exact lk; apply WO_mv (hn := rfl); exact lk)
    apply WO_ca (hn := rfl) (.tup [r1, r2, .bool true]) PM.empty
    · apply evs2
      exact lk
      exact lk
    · exact s3 _
    (apply WO_mv (hn := rfl); exact lk; apply WO_ex (hn := rfl); exact lk; exact rfl; apply WO_ex (hn := rfl); exact lk; exact rfl; apply WO_ex (hn := rfl); exact lk; exact rfl; apply WO_as (hn := rfl); exact lk; apply WO_as (hn := rfl); exact lk; apply WO_as (hn := rfl); exact lk)
    refine WO_nil ?_; show WC E _ _ _; repeat first | refine WC_seq ?_ | refine WC_block ?_ | refine WC_region ?_
    (apply WO_mv (hn := rfl); exact lk; apply WO_mv (hn := rfl); exact lk; apply WO_as (hn := rfl); exact lk; apply WO_as (hn := rfl); exact lk)
    refine WO_nil ?_
    refine ⟨u % v, hmod, _, v, pv, r2, rfl, gk, gk, hV, s2, hlv, Nat.lt_of_le_of_lt (lm_mono (Nat.le_of_lt hmod)) hlv, ?_⟩
    rw [← hg, Nat.gcd_comm u v, Nat.gcd_rec v u, Nat.gcd_comm]
  · intro hc
    have hc : (lm v).length = 0 := by simp only [decide_eq_false_iff_not] at hc; omega
    have hv0 : v = 0 := lm_nil.1 (List.length_eq_zero_iff.1 hc)
    subst hv0
    rw [Nat.gcd_zero_right] at hg
    subst hg
    refine WC_exit ?_
    show WC E _ _ _; repeat first | refine WC_seq ?_ | refine WC_block ?_ | refine WC_region ?_
    (apply WO_mv (hn := rfl); exact lk; apply WO_as (hn := rfl); exact lk)
    refine WO_nil ?_
    show WC E _ _ _
    refine WC_ret ?_
    show BodyQ _ _ _ _ _
    refine fin1 rfl ex_ret rfl get_hit ?_
    obtain ⟨q3, m3, h3, h4⟩ := Lim.rd hU PM.empty 11
    exact ⟨q3, m3, h3, h4⟩
end Go.Ab.T
/- rat.Of, rat.Norm. -/
open Go Go.Ab
namespace Go.Ab.T
set_option maxRecDepth 10000
set_option maxHeartbeats 2000000
set_option linter.unusedSimpArgs false
attribute [local irreducible] Tr.get Tr.set

theorem ty36 : E.ty 36 = some ⟨.struct [⟨0, 1, false⟩, ⟨1, 1, false⟩, ⟨2, 1, false⟩], 3, some [.bool false, .nils, .nils]⟩ := rfl
/-- a number of the program's kind, in its normal form -/
def RatP (r : Rat) (v : PV) : Prop := ∃ pn pd, v = .agg [.bool (decide (r.num < 0)), pn, pd] ∧ Lim (lm r.num.natAbs) pn ∧ (r = 0 → pn = .nils) ∧ Lim (lm r.den) pd
/-- the number that a sign and two naturals stand for -/
def rq (s : Bool) (x y : Nat) : Rat := if s then -(mkRat (x : Int) y) else mkRat (x : Int) y

theorem rq_den {s : Bool} {x y : Nat} (hy : y ≠ 0) : (rq s x y).den = y / Nat.gcd x y := by
  have e : (mkRat (x : Int) y).den = y / Nat.gcd x y := by
    rw [Rat.den_mkRat, if_neg hy, Int.natAbs_natCast, Nat.gcd_comm]
  unfold rq
  split
  · exact e
  · exact e
theorem rq_num {s : Bool} {x y : Nat} (hy : y ≠ 0) : (rq s x y).num = if s then -((x / Nat.gcd x y : Nat) : Int) else ((x / Nat.gcd x y : Nat) : Int) := by
  have e : (mkRat (x : Int) y).num = ((x / Nat.gcd x y : Nat) : Int) := by
    rw [Rat.num_mkRat, if_neg hy, Int.natAbs_natCast, Nat.gcd_comm]
    rfl
  unfold rq
  cases s
  · simp only [Bool.false_eq_true, if_false]; exact e
  · simp only [if_true]; rw [Rat.neg_num, e]
theorem rq_zero {s : Bool} {x y : Nat} (h : x = 0 ∨ y = 0) : rq s x y = 0 := by
  have e : mkRat (x : Int) y = 0 := by
    rcases h with rfl | rfl
    · simp
    · simp
  unfold rq
  rw [e]
  split <;> rfl

theorem Lim.cell {a : List Nat} {p : PV} (h : Lim a p) : cellOk p = true := by
  rcases h with ⟨_, rfl⟩ | ⟨cp, rfl⟩ <;> rfl
section
variable {m : PM} {b et : Nat} {frz : Bool} {x y z : PV}
theorem ld3_0 {t : Option TI} {ti : TI} (ht : t = some ti) (hs : ti.sz = 1) (ha : ti.agg = false) (hb : m.get b = some (.cells [x, y, z] 0 frz et)) : mLoad t m (some (.ptr b 0 0)) = some (x, m) := by
  subst ht
  simp only [mLoad, ldCells, hb, hs, ha]; rfl
theorem ld3_1 {t : Option TI} {ti : TI} (ht : t = some ti) (hs : ti.sz = 1) (ha : ti.agg = false) (hb : m.get b = some (.cells [x, y, z] 0 frz et)) : mLoad t m (some (.ptr b 0 1)) = some (y, m) := by
  subst ht
  simp only [mLoad, ldCells, hb, hs, ha]; rfl
theorem ld3_2 {t : Option TI} {ti : TI} (ht : t = some ti) (hs : ti.sz = 1) (ha : ti.agg = false) (hb : m.get b = some (.cells [x, y, z] 0 frz et)) : mLoad t m (some (.ptr b 0 2)) = some (z, m) := by
  subst ht
  simp only [mLoad, ldCells, hb, hs, ha]; rfl
theorem ld3 {t : Option TI} (ht : t = E.ty 36) (hb : m.get b = some (.cells [x, y, z] 0 frz et)) : mLoad t m (some (.ptr b 0 0)) = some (.agg [x, y, z], m) := by
  subst ht
  rw [ty36]
  simp only [mLoad, ldCells, hb]; rfl
theorem st3 {x' y' z' : PV} (hb : m.get b = some (.cells [x, y, z] 0 false et)) (h1 : cellOk x' = true) (h2 : cellOk y' = true) (h3 : cellOk z' = true) : mStore (E.ty 36) m (some (.ptr b 0 0)) (some (.agg [x', y', z'])) = some (undefPV, m.upd b (.cells [x', y', z'] 0 false et)) := by
  rw [ty36]
  have e : cellsOk [x', y', z'] = true := by simp [cellsOk, h1, h2, h3]
  simp only [mStore, hb, PV.cells, e]; rfl
theorem bx3 (h1 : cellOk x = true) (h2 : cellOk y = true) (h3 : cellOk z = true) : mBox 36 m (some (.agg [x, y, z])) = some (.ptr m.next 0 0, m.new (.cells [x, y, z] 0 false 36)) := by
  have e : cellsOk [x, y, z] = true := by simp [cellsOk, h1, h2, h3]
  simp only [mBox, PV.cells, e, cond_true]
/-- the end of a function that returns a number in a variable -/
theorem fin3c {fn : Func} {t : Nat} {R : PV → PM → Prop} (hr : fn.results.toList = [.cell t 36]) {xx : Ex} (hx : ∀ i, xx ≠ .exit i) {s : St} (hd : s.df = []) (h : s.tm.get t = some (.ptr b 0 0)) (hb : s.me.get b = some (.cells [x, y, z] 0 frz et)) (hR : R (.agg [x, y, z]) s.me) : BodyQ E fn R xx s := by
  refine ⟨hx, by rw [hd]; rfl, [.agg [x, y, z]], ?_, hR⟩
  rw [hr]
  simp only [resultsOf, ty36, evo_t h]
  have := ld3 (m := s.me) rfl hb
  rw [ty36] at this
  rw [this]
theorem reify_a3 {d : Nat} (h1 : flat x = true) (h2 : flat y = true) (h3 : flat z = true) : reify (d + 1) m (.agg [x, y, z]) = some (.agg [x, y, z], m) := by
  simp only [reify, reifysW_flats (flats3 h1 h2 h3)]
end

theorem rat_Of {s : Bool} {a b : List Nat} {p q : PV} (h : Lim a p) (h' : Lim b q) (ho : Ok a) (ho' : Ok b) (hl : a.length < 300000) (hl' : b.length < 300000) : ∃ v, RatP (rq s (nv a) (nv b)) v ∧ ∀ m, Ev E 107 [.bool s, p, q] m v m := by
  obtain ⟨pA, hA, hp2⟩ := nat_Trim h ho (by omega)
  obtain ⟨pB, hB, hq2⟩ := nat_Trim h' ho' (by omega)
  have hla : (lm (nv a)).length < 300000 := Nat.lt_of_le_of_lt (lm_le ho) hl
  have hlb : (lm (nv b)).length < 300000 := Nat.lt_of_le_of_lt (lm_le ho') hl'
  generalize hx : nv a = x at *
  generalize hy : nv b = y at *
  refine Ev_isoE rfl rfl rfl (flats3 rfl h.flat h'.flat) (fn := Go.Proofs.Tryz.f107) rfl rfl rfl ?_
  show WC E _ ⟨((Tr.leaf.set 0 _).set 1 p).set 2 q, 43, _, _⟩ _
  repeat first | refine WC_seq ?_ | refine WC_block ?_ | refine WC_region ?_
  apply WO_al (hn := rfl)
  · exact rfl
  refine WO_nil ?_; show WC E _ _ _; repeat first | refine WC_seq ?_ | refine WC_block ?_ | refine WC_region ?_
  (apply WO_mv (hn := rfl); exact lk)
  apply WO_ca (hn := rfl) pA
  · exact evs1 lk
  · exact hp2 _
  (apply WO_mv (hn := rfl); exact lk)
  apply WO_ca (hn := rfl) pB
  · exact evs1 lk
  · exact hq2 _
  have hb : (PM.empty.new (.cells [.bool false, .nils, .nils] 0 false 36)).get 0 = some (.cells [.bool false, .nils, .nils] 0 false 36) := by rw [PM.get_new]; exact if_pos rfl
  rw [show PM.empty.next = 0 from rfl]
  generalize PM.empty.new (.cells [.bool false, .nils, .nils] 0 false 36) = me at *
  (apply WO_as (hn := rfl); exact lk; apply WO_as (hn := rfl); exact lk)
  refine WO_nil ?_; show WC E _ _ _; repeat first | refine WC_seq ?_ | refine WC_block ?_ | refine WC_region ?_
  obtain ⟨p1, k1, k2⟩ := nat_Of (n := 1) (by decide)
  refine WO.mono (Q := fun s' => ∃ tm, s' = ⟨tm, 43, me, []⟩ ∧ tm.get 0 = some (.bool s) ∧ tm.get 1 = some pA ∧ tm.get 2 = some pB ∧ tm.get 6 = some (.ptr 0 0 0) ∧ tm.get 19 = some (.bool (decide (x = 0 ∨ y = 0)))) ?_ ?_
  · by_cases hx0 : x = 0
    · have hz : (lm x).length = 0 := by rw [hx0, lm_zero]; rfl
      (apply WO_mv (hn := rfl); exact lk; apply WO_b1 (hn := rfl) (hb := rfl); exact lk; exact nk; apply WO_bin (hn := rfl); exact lk; exact lk; exact bk; apply WO_mv (hn := rfl); exact lk; apply WO_gf; exact uk; exact rfl; apply WO_gf; exact uk; exact rfl; apply WO_gf; exact uk; exact rfl)
      apply WO_pkt (hn := rfl)
      exact lk
      · simp only [decide_eq_true_eq]; omega
      exact lk
      exact WO_nil ⟨_, rfl, gk, gk, gk, gk, by rw [decide_eq_true (Or.inl hx0)]; exact get_hit⟩
    · have hz : (lm x).length ≠ 0 := fun e => hx0 (lm_nil.1 (List.length_eq_zero_iff.1 e))
      (apply WO_mv (hn := rfl); exact lk; apply WO_b1 (hn := rfl) (hb := rfl); exact lk; exact nk; apply WO_bin (hn := rfl); exact lk; exact lk; exact bk; apply WO_mv (hn := rfl); exact lk; apply WO_gt; exact uk; apply WO_mv (hn := rfl); exact lk; apply WO_gt; exact uk; apply WO_b1 (hn := rfl) (hb := rfl); exact lk; exact nk; apply WO_gt; exact uk; apply WO_bin (hn := rfl); exact lk; exact lk; exact bk)
      apply WO_pkf (hn := rfl)
      exact lk
      · simp only [decide_eq_false_iff_not]; omega
      exact lk
      refine WO_nil ⟨_, rfl, gk, gk, gk, gk, ?_⟩
      rw [get_hit]
      congr 2
      refine decide_eq_decide.2 ⟨fun hh => .inr (lm_nil.1 (List.length_eq_zero_iff.1 (by omega))), fun hh => ?_⟩
      rcases hh with hh | hh
      · exact absurd hh hx0
      · rw [hh, lm_zero]; rfl
  rintro _ ⟨tm, rfl, g0, g1, g2, g6, g19⟩
  show WC E _ _ _; repeat first | refine WC_seq ?_ | refine WC_block ?_ | refine WC_region ?_
  apply WC_cond; (focus (apply condOf_t; (focus (first | (apply evo_t; (repeat (first | exact get_hit | assumption | refine get_miss rfl ?_ | fail)); done) | (exact rfl) | fail))))
  · intro hc
    have hc : x = 0 ∨ y = 0 := of_decide_eq_true hc
    repeat first | refine WC_seq ?_ | refine WC_block ?_ | refine WC_region ?_
    apply WO_ca (hn := rfl) p1 me
    · exact evs1 rfl
    · exact k2 me
    apply WO_bd (hn := rfl)
    · exact evps1 lk
    · exact (show _ = some (PV.agg [.bool false, .nils, p1]) from by rcases k1 with ⟨_, rfl⟩ | ⟨_, rfl⟩ <;> rfl)
    apply WO_st
    exact lk
    exact lk
    · exact st3 hb rfl rfl (Lim.cell k1)
    refine WO_nil ?_
    show WC E _ _ _
    refine WC_ret ?_
    show BodyQ _ _ _ _ _
    refine fin3c rfl ex_ret rfl gk (by rw [PM.get_upd, if_pos rfl]) ?_
    refine ⟨_, _, reify_a3 rfl rfl (Lim.flat k1), ?_⟩
    rw [rq_zero hc]
    exact ⟨.nils, p1, rfl, .inl ⟨lm_zero, rfl⟩, fun _ => rfl, k1⟩
  · intro hc
    have hc : ¬ (x = 0 ∨ y = 0) := of_decide_eq_false hc
    have hx0 : x ≠ 0 := fun e => hc (.inl e)
    have hy0 : y ≠ 0 := fun e => hc (.inr e)
    have hg0 : Nat.gcd x y ≠ 0 := fun e => hx0 (Nat.eq_zero_of_gcd_eq_zero_left e)
    have hgx : Nat.gcd x y ≤ x := Nat.gcd_le_left _ (by omega)
    obtain ⟨pg, hg, hg2⟩ := nat_Gcd hA hB (ok_lm x) (ok_lm y) hla hlb
    rw [nv_lm, nv_lm] at hg
    have hlg : (lm (Nat.gcd x y)).length < 300000 := Nat.lt_of_le_of_lt (lm_mono hgx) hla
    obtain ⟨n1, n2, c1, c2, c3⟩ := nat_DivMod hA hg (ok_lm x) (ok_lm _) hla hlg (by rw [nv_lm]; exact hg0)
    rw [nv_lm, nv_lm] at c1
    obtain ⟨d1, d2, e1, e2, e3⟩ := nat_DivMod hB hg (ok_lm y) (ok_lm _) hlb hlg (by rw [nv_lm]; exact hg0)
    rw [nv_lm, nv_lm] at e1
    refine WC_skip ?_
    show WC E _ _ _; repeat first | refine WC_seq ?_ | refine WC_block ?_ | refine WC_region ?_
    (apply WO_mv (hn := rfl); exact lk; apply WO_mv (hn := rfl); exact lk)
    apply WO_ca (hn := rfl) pg me
    · apply evs2
      exact lk
      exact lk
    · exact hg2 me
    (apply WO_as (hn := rfl); exact lk)
    refine WO_nil ?_; show WC E _ _ _; repeat first | refine WC_seq ?_ | refine WC_block ?_ | refine WC_region ?_
    (apply WO_mv (hn := rfl); exact lk; apply WO_mv (hn := rfl); exact lk)
    apply WO_ca (hn := rfl) (.tup [n1, n2, .bool true]) me
    · apply evs2
      exact lk
      exact lk
    · exact c3 me
    (apply WO_mv (hn := rfl); exact lk; apply WO_ex (hn := rfl); exact lk; exact rfl; apply WO_ex (hn := rfl); exact lk; exact rfl; apply WO_ex (hn := rfl); exact lk; exact rfl; apply WO_as (hn := rfl); exact lk)
    refine WO_nil ?_; show WC E _ _ _; repeat first | refine WC_seq ?_ | refine WC_block ?_ | refine WC_region ?_
    (apply WO_mv (hn := rfl); exact lk; apply WO_mv (hn := rfl); exact lk)
    apply WO_ca (hn := rfl) (.tup [d1, d2, .bool true]) me
    · apply evs2
      exact lk
      exact lk
    · exact e3 me
    (apply WO_mv (hn := rfl); exact lk; apply WO_ex (hn := rfl); exact lk; exact rfl; apply WO_ex (hn := rfl); exact lk; exact rfl; apply WO_ex (hn := rfl); exact lk; exact rfl; apply WO_as (hn := rfl); exact lk)
    refine WO_nil ?_; show WC E _ _ _; repeat first | refine WC_seq ?_ | refine WC_block ?_ | refine WC_region ?_
    (apply WO_mv (hn := rfl); exact lk; apply WO_mv (hn := rfl); exact lk; apply WO_mv (hn := rfl); exact lk)
    apply WO_bd (hn := rfl)
    · apply evps3
      exact lk
      exact lk
      exact lk
    · exact (show _ = some (PV.agg [.bool s, n1, d1]) from by
        rcases c1 with ⟨_, rfl⟩ | ⟨_, rfl⟩ <;> rcases e1 with ⟨_, rfl⟩ | ⟨_, rfl⟩ <;> rfl)
    apply WO_st
    exact lk
    exact lk
    · exact st3 hb rfl (Lim.cell c1) (Lim.cell e1)
    refine WO_nil ?_
    show WC E _ _ _
    refine WC_ret ?_
    show BodyQ _ _ _ _ _
    refine fin3c rfl ex_ret rfl gk (by rw [PM.get_upd, if_pos rfl]) ?_
    refine ⟨_, _, reify_a3 rfl (Lim.flat c1) (Lim.flat e1), ?_⟩
    have hq : x / Nat.gcd x y ≠ 0 := by
      have := Nat.div_pos hgx (by omega)
      omega
    refine ⟨n1, d1, ?_, ?_, ?_, ?_⟩
    · rw [rq_num hy0]
      clear c1
      generalize x / Nat.gcd x y = t at *
      cases s
      · simp only [Bool.false_eq_true, if_false]
        rw [decide_eq_false (show ¬ (t : Int) < 0 by omega)]
      · simp only [if_true]
        rw [decide_eq_true (show -(t : Int) < 0 by omega)]
    · rw [rq_num hy0]
      cases s
      · simp only [Bool.false_eq_true, if_false, Int.natAbs_natCast]; exact c1
      · simp only [if_true, Int.natAbs_neg, Int.natAbs_natCast]; exact c1
    · intro h0
      have h1 := rq_num (s := s) (x := x) hy0
      rw [h0] at h1
      cases s
      · simp only [Bool.false_eq_true, if_false] at h1
        exact absurd h1 (by simp; omega)
      · simp only [if_true] at h1
        exact absurd h1 (by simp; omega)
    · rw [rq_den hy0]; exact e1
end Go.Ab.T
/- rat.Norm, Large, Zero, signed, Neg. -/
open Go Go.Ab
namespace Go.Ab.T
set_option maxRecDepth 10000
set_option maxHeartbeats 2000000
set_option linter.unusedSimpArgs false
attribute [local irreducible] Tr.get Tr.set

/-- a number of the program's kind, in any form -/
def RatW (r : Rat) (v : PV) : Prop := ∃ s pa pb a b, v = .agg [.bool s, pa, pb] ∧ Lim a pa ∧ Lim b pb ∧ Ok a ∧ Ok b ∧ a.length < 300000 ∧ b.length < 300000 ∧ rq s (nv a) (nv b) = r
/-- a number of so many limbs at most -/
def Bd (L : Nat) (r : Rat) : Prop := (lm r.num.natAbs).length ≤ L ∧ (lm r.den).length ≤ L
theorem rq_self (r : Rat) : rq (decide (r.num < 0)) r.num.natAbs r.den = r := by
  unfold rq
  by_cases h : r.num < 0
  · rw [decide_eq_true h, if_pos rfl, Rat.neg_mkRat, show (-(r.num.natAbs : Int)) = r.num by omega, Rat.mkRat_self]
  · rw [decide_eq_false h, if_neg (by decide), show ((r.num.natAbs : Int)) = r.num by omega, Rat.mkRat_self]
theorem RatP.w {r : Rat} {v : PV} (h : RatP r v) (hb : Bd 299999 r) : RatW r v := by
  obtain ⟨pn, pd, rfl, h1, _, h2⟩ := h
  have b1 := hb.1
  have b2 := hb.2
  exact ⟨_, pn, pd, _, _, rfl, h1, h2, ok_lm _, ok_lm _, by omega, by omega, by rw [nv_lm, nv_lm]; exact rq_self r⟩

theorem rat_Norm {r : Rat} {v : PV} (h : RatW r v) : ∃ w, RatP r w ∧ ∀ m, Ev E 58 [v] m w m := by
  obtain ⟨s, pa, pb, a, b, rfl, h1, h2, h3, h4, h5, h6, h7⟩ := h
  obtain ⟨w, hw, hw2⟩ := rat_Of (s := s) h1 h2 h3 h4 h5 h6
  rw [h7] at hw
  have hw' := hw
  obtain ⟨pn, pd, rfl, k1, _, k2⟩ := hw'
  refine Ev_isoR rfl rfl rfl (re_agg (flats3 rfl (Lim.flat h1) (Lim.flat h2))) (fn := Go.Proofs.Tryz.f58) rfl rfl rfl ?_
  show WC E _ ⟨Tr.leaf.set 0 _, 10, _, _⟩ _
  repeat first | refine WC_seq ?_ | refine WC_block ?_ | refine WC_region ?_
  apply WO_bx (hn := rfl)
  exact lk
  · exact bx3 rfl (Lim.cell h1) (Lim.cell h2)
  apply WO_al (hn := rfl)
  · exact rfl
  rw [show PM.empty.next = 0 from rfl, show (PM.empty.new (.cells [.bool s, pa, pb] 0 false 36)).next = 1 from rfl]
  have b0 : ((PM.empty.new (.cells [.bool s, pa, pb] 0 false 36)).new (.cells [.bool false, .nils, .nils] 0 false 36)).get 0 = some (.cells [.bool s, pa, pb] 0 false 36) := two_get0
  have b1 : ((PM.empty.new (.cells [.bool s, pa, pb] 0 false 36)).new (.cells [.bool false, .nils, .nils] 0 false 36)).get 1 = some (.cells [.bool false, .nils, .nils] 0 false 36) := by
    rw [PM.get_new]; exact if_pos rfl
  generalize ((PM.empty.new (.cells [.bool s, pa, pb] 0 false 36)).new (.cells [.bool false, .nils, .nils] 0 false 36)) = me at *
  refine WO_nil ?_; show WC E _ _ _; repeat first | refine WC_seq ?_ | refine WC_block ?_ | refine WC_region ?_
  apply WO_fa (hn := rfl)
  exact lk
  · exact rfl
  apply WO_ld (hn := rfl)
  exact lk
  · exact ld3_0 rfl rfl rfl b0
  apply WO_fa (hn := rfl)
  exact lk
  · exact rfl
  apply WO_ld (hn := rfl)
  exact lk
  · exact ld3_1 rfl rfl rfl b0
  apply WO_fa (hn := rfl)
  exact lk
  · exact rfl
  apply WO_ld (hn := rfl)
  exact lk
  · exact ld3_2 rfl rfl rfl b0
  apply WO_ca (hn := rfl) (.agg [.bool (decide (r.num < 0)), pn, pd]) me
  · apply evs3
    exact lk
    exact lk
    exact lk
  · exact hw2 me
  apply WO_st
  exact lk
  exact lk
  · exact st3 b1 rfl (Lim.cell k1) (Lim.cell k2)
  refine WO_nil ?_
  show WC E _ _ _
  refine WC_ret ?_
  show BodyQ _ _ _ _ _
  exact fin3c rfl ex_ret rfl gk (by rw [PM.get_upd, if_pos rfl]) ⟨_, _, reify_a3 rfl (Lim.flat k1) (Lim.flat k2), hw⟩

theorem rat_Zero {r : Rat} {v : PV} (h : RatW r v) (m : PM) : Ev E 183 [v] m (.bool (decide (r = 0))) m := by
  obtain ⟨w, hw, hw2⟩ := rat_Norm h
  obtain ⟨s, pa, pb, a, b, rfl, h1, h2, h3, h4, h5, h6, h7⟩ := h
  obtain ⟨pn, pd, rfl, k1, k0, k2⟩ := hw
  suffices hh : ∃ q, q = PV.bool (decide (r = 0)) ∧ ∀ m, Ev E 183 [.agg [.bool s, pa, pb]] m q m by
    obtain ⟨q, rfl, hh⟩ := hh
    exact hh m
  refine Ev_isoR rfl rfl rfl (re_agg (flats3 rfl (Lim.flat h1) (Lim.flat h2))) (fn := Go.Proofs.Tryz.f183) rfl rfl rfl ?_
  show WC E _ ⟨Tr.leaf.set 0 _, 8, _, _⟩ _
  repeat first | refine WC_seq ?_ | refine WC_block ?_ | refine WC_region ?_
  apply WO_bx (hn := rfl)
  exact lk
  · exact bx3 rfl (Lim.cell h1) (Lim.cell h2)
  rw [show PM.empty.next = 0 from rfl]
  have b0 : (PM.empty.new (.cells [.bool s, pa, pb] 0 false 36)).get 0 = some (.cells [.bool s, pa, pb] 0 false 36) := by
    rw [PM.get_new]; exact if_pos rfl
  generalize PM.empty.new (.cells [.bool s, pa, pb] 0 false 36) = me at *
  (apply WO_as (hn := rfl); exact lk)
  refine WO_nil ?_; show WC E _ _ _; repeat first | refine WC_seq ?_ | refine WC_block ?_ | refine WC_region ?_
  apply WO_ld (hn := rfl)
  exact lk
  · exact ld3 rfl b0
  apply WO_ca (hn := rfl) (.agg [.bool (decide (r.num < 0)), pn, pd]) me
  · exact evs1 lk
  · exact hw2 me
  apply WO_fd (hn := rfl)
  exact lk
  · exact (show _ = some pn from rfl)
  (apply WO_b1 (hn := rfl) (hb := rfl); exact lk; exact nk; apply WO_bin (hn := rfl); exact lk; exact lk; exact bk; apply WO_as (hn := rfl); exact lk)
  refine WO_nil ?_
  show WC E _ _ _
  refine WC_ret ?_
  show BodyQ _ _ _ _ _
  refine fin1 rfl ex_ret rfl get_hit ⟨_, me, rfl, ?_⟩
  congr 1
  refine decide_eq_decide.2 ⟨fun hz => ?_, fun hz => ?_⟩
  · have : (lm r.num.natAbs).length = 0 := by omega
    have := lm_nil.1 (List.length_eq_zero_iff.1 this)
    exact Rat.num_eq_zero.1 (by omega)
  · subst hz
    have : lm ((0 : Rat).num.natAbs) = [] := lm_zero
    rw [this]; rfl

theorem rat_Large {r : Rat} {v : PV} (h : RatW r v) (m : PM) : Ev E 129 [v] m (.bool (decide (16 < (lm r.num.natAbs).length ∨ 16 < (lm r.den).length))) m := by
  obtain ⟨w, hw, hw2⟩ := rat_Norm h
  obtain ⟨s, pa, pb, a, b, rfl, h1, h2, h3, h4, h5, h6, h7⟩ := h
  obtain ⟨pn, pd, rfl, k1, k0, k2⟩ := hw
  suffices hh : ∃ q, q = PV.bool (decide (16 < (lm r.num.natAbs).length ∨ 16 < (lm r.den).length)) ∧ ∀ m, Ev E 129 [.agg [.bool s, pa, pb]] m q m by
    obtain ⟨q, rfl, hh⟩ := hh
    exact hh m
  refine Ev_isoR rfl rfl rfl (re_agg (flats3 rfl (Lim.flat h1) (Lim.flat h2))) (fn := Go.Proofs.Tryz.f129) rfl rfl rfl ?_
  show WC E _ ⟨Tr.leaf.set 0 _, 15, _, _⟩ _
  repeat first | refine WC_seq ?_ | refine WC_block ?_ | refine WC_region ?_
  apply WO_bx (hn := rfl)
  exact lk
  · exact bx3 rfl (Lim.cell h1) (Lim.cell h2)
  rw [show PM.empty.next = 0 from rfl]
  have b0 : (PM.empty.new (.cells [.bool s, pa, pb] 0 false 36)).get 0 = some (.cells [.bool s, pa, pb] 0 false 36) := by
    rw [PM.get_new]; exact if_pos rfl
  generalize PM.empty.new (.cells [.bool s, pa, pb] 0 false 36) = me at *
  (apply WO_as (hn := rfl); exact lk)
  refine WO_nil ?_; show WC E _ _ _; repeat first | refine WC_seq ?_ | refine WC_block ?_ | refine WC_region ?_
  apply WO_ld (hn := rfl)
  exact lk
  · exact ld3 rfl b0
  apply WO_ca (hn := rfl) (.agg [.bool (decide (r.num < 0)), pn, pd]) me
  · exact evs1 lk
  · exact hw2 me
  apply WO_st
  exact lk
  exact lk
  · exact st3 b0 rfl (Lim.cell k1) (Lim.cell k2)
  have b1 : (me.upd 0 (.cells [.bool (decide (r.num < 0)), pn, pd] 0 false 36)).get 0 = some (.cells [.bool (decide (r.num < 0)), pn, pd] 0 false 36) := by rw [PM.get_upd, if_pos rfl]
  generalize me.upd 0 (.cells [.bool (decide (r.num < 0)), pn, pd] 0 false 36) = me2 at *
  refine WO_nil ?_; show WC E _ _ _; repeat first | refine WC_seq ?_ | refine WC_block ?_ | refine WC_region ?_
  apply WO_fa (hn := rfl)
  exact lk
  · exact rfl
  apply WO_ld (hn := rfl)
  exact lk
  · exact ld3_1 rfl rfl rfl b1
  (apply WO_b1 (hn := rfl) (hb := rfl); exact lk; exact nk; apply WO_bin (hn := rfl); exact lk; exact lk; exact bk; apply WO_mv (hn := rfl); exact lk)
  have fin : ∀ {s : St} {t : Bool}, s.df = [] → s.tm.get 2 = some (.bool t) → t = decide (16 < (lm r.num.natAbs).length ∨ 16 < (lm r.den).length) → BodyQ E Go.Proofs.Tryz.f129 (fun v m => ∃ w m2, reify 12 m v = some (w, m2) ∧ w = PV.bool (decide (16 < (lm r.num.natAbs).length ∨ 16 < (lm r.den).length))) .ret s := fun {s t} hd h2 e =>
    fin1 rfl ex_ret hd h2 ⟨_, s.me, rfl, by rw [e]⟩
  by_cases hA : 16 < (lm r.num.natAbs).length
  · (apply WO_gf; exact uk; exact rfl; apply WO_gf; exact uk; exact rfl; apply WO_gf; exact uk; exact rfl; apply WO_gf; exact uk; exact rfl)
    apply WO_pkt (hn := rfl)
    exact lk
    · simp only [decide_eq_true_eq]; omega
    exact lk
    (apply WO_as (hn := rfl); exact lk)
    refine WO_nil ?_
    show WC E _ _ _
    refine WC_ret ?_
    show BodyQ _ _ _ _ _
    exact fin rfl get_hit (decide_eq_true (Or.inl hA)).symm
  · (apply WO_gt; exact uk)
    apply WO_fa (hn := rfl)
    exact lk
    · exact rfl
    (apply WO_gt; exact uk)
    apply WO_ld (hn := rfl)
    exact lk
    · exact ld3_2 rfl rfl rfl b1
    (apply WO_gt; exact uk; apply WO_b1 (hn := rfl) (hb := rfl); exact lk; exact nk; apply WO_gt; exact uk; apply WO_bin (hn := rfl); exact lk; exact lk; exact bk)
    apply WO_pkf (hn := rfl)
    exact lk
    · simp only [decide_eq_false_iff_not]; omega
    exact lk
    (apply WO_as (hn := rfl); exact lk)
    refine WO_nil ?_
    show WC E _ _ _
    refine WC_ret ?_
    show BodyQ _ _ _ _ _
    refine fin rfl get_hit (decide_eq_decide.2 ⟨fun hh => .inr (by omega), fun hh => ?_⟩)
    rcases hh with hh | hh
    · exact absurd hh hA
    · omega
end Go.Ab.T
/- rat.signed, Neg, Mul. -/
open Go Go.Ab
namespace Go.Ab.T
set_option maxRecDepth 10000
set_option maxHeartbeats 2000000
set_option linter.unusedSimpArgs false
attribute [local irreducible] Tr.get Tr.set

theorem eqPVs_cu : ∀ {a : List Nat}, eqPVs (cu a) (cu a) = true
  | [] => rfl
  | x :: a => by
    show (eqPV (.int .u32 (x : Int)) (.int .u32 (x : Int)) && eqPVs (cu a) (cu a)) = true
    rw [eqPVs_cu, Bool.and_true]
    simp only [eqPV, intEq_d]
    simp [kindNo]
theorem eqPV_lim {a : List Nat} {p : PV} (h : Lim a p) : eqPV p p = true := by
  rcases h with ⟨_, rfl⟩ | ⟨cp, rfl⟩
  · rfl
  · simp only [eqPV, eqPVs_cu]
    cases cp <;> simp
theorem sameRead_me {m : PM} {b et : Nat} {frz s : Bool} {a c : List Nat} {p q : PV} (hb : m.get b = some (.cells [.bool s, p, q] 0 frz et)) (h : Lim a p) (h' : Lim c q) : sameRead m m (.ptr b 0 0) 3 = true := by
  have e : ldCells m (some (.ptr b 0 0)) 3 = some [.bool s, p, q] := by simp only [ldCells, hb]; rfl
  simp only [sameRead, e, eqPVs, eqPV_lim h, eqPV_lim h']
  cases s <;> rfl
theorem pure_of {f : Nat} {l : List PV} (hx : E.ext f = none) (hi : E.iso f = true) (h : flats l = true) : pureCall E f l = true := by
  simp only [pureCall, hx, hi, h, Bool.and_self]
theorem st3_0 {m : PM} {b et : Nat} {x y z : PV} {v : Bool} (hb : m.get b = some (.cells [x, y, z] 0 false et)) : mStore (E.ty 4) m (some (.ptr b 0 0)) (some (.bool v)) = some (undefPV, m.upd b (.cells [.bool v, y, z] 0 false et)) := by
  rw [show E.ty 4 = some ⟨.bool, 1, some [.bool false]⟩ from rfl]
  simp only [mStore, hb]; rfl
theorem num_nil {r : Rat} : (lm r.num.natAbs).length = 0 ↔ r = 0 := by
  constructor
  · intro h
    have := lm_nil.1 (List.length_eq_zero_iff.1 h)
    exact Rat.num_eq_zero.1 (by omega)
  · rintro rfl
    have : lm ((0 : Rat).num.natAbs) = [] := lm_zero
    rw [this]; rfl

theorem rat_signed {n s : Bool} {a b : List Nat} {pn pd : PV} (h : Lim a pn) (h' : Lim b pd) (m : PM) : Ev E 250 [.bool n, .agg [.bool s, pn, pd]] m (.agg [.bool (n && decide (0 < a.length)), pn, pd]) m := by
  rw [show decide (0 < a.length) = decide ((0 : Int) < (a.length : Int)) from decide_eq_decide.2 (by omega)]
  suffices hh : ∃ q, q = PV.agg [.bool (n && decide ((0 : Int) < (a.length : Int))), pn, pd] ∧ ∀ m, Ev E 250 [.bool n, .agg [.bool s, pn, pd]] m q m by
    obtain ⟨q, rfl, hh⟩ := hh
    exact hh m
  refine Ev_isoR rfl rfl rfl (re_fagg rfl (flats3 rfl (Lim.flat h) (Lim.flat h'))) (fn := Go.Proofs.Tryz.f250) rfl rfl rfl ?_
  show WC E _ ⟨(Tr.leaf.set 0 _).set 1 _, 14, _, _⟩ _
  repeat first | refine WC_seq ?_ | refine WC_block ?_ | refine WC_region ?_
  apply WO_bx (hn := rfl)
  exact lk
  · exact bx3 rfl (Lim.cell h) (Lim.cell h')
  apply WO_al (hn := rfl)
  · exact rfl
  rw [show PM.empty.next = 0 from rfl, show (PM.empty.new (.cells [.bool s, pn, pd] 0 false 36)).next = 1 from rfl]
  have b0 : ((PM.empty.new (.cells [.bool s, pn, pd] 0 false 36)).new (.cells [.bool false, .nils, .nils] 0 false 36)).get 0 = some (.cells [.bool s, pn, pd] 0 false 36) := two_get0
  have b1 : ((PM.empty.new (.cells [.bool s, pn, pd] 0 false 36)).new (.cells [.bool false, .nils, .nils] 0 false 36)).get 1 = some (.cells [.bool false, .nils, .nils] 0 false 36) := two_get1
  generalize ((PM.empty.new (.cells [.bool s, pn, pd] 0 false 36)).new (.cells [.bool false, .nils, .nils] 0 false 36)) = me at *
  refine WO_nil ?_
  show WC E _ _ _
  refine WC_seq (WC_region ?_)
  refine WO.mono (Q := fun s' => ∃ tm, s' = ⟨tm, 14, me.upd 0 (.cells [.bool (n && decide ((0 : Int) < (a.length : Int))), pn, pd] 0 false 36), []⟩ ∧ tm.get 3 = some (.ptr 0 0 0) ∧ tm.get 4 = some (.ptr 1 0 0)) ?_ ?_
  · cases n
    · (apply WO_mv (hn := rfl); exact lk; apply WO_mv (hn := rfl); exact lk; apply WO_gf; exact uk; exact rfl; apply WO_gf; exact uk; exact rfl; apply WO_gf; exact uk; exact rfl; apply WO_gf; exact uk; exact rfl)
      apply WO_pkf (hn := rfl)
      exact lk
      · exact rfl
      exact lk
      apply WO_fa (hn := rfl)
      exact lk
      · exact rfl
      apply WO_st
      exact lk
      exact lk
      · exact st3_0 b0
      exact WO_nil ⟨_, rfl, gk, gk⟩
    · (apply WO_mv (hn := rfl); exact lk; apply WO_mv (hn := rfl); exact lk; apply WO_gt; exact uk)
      apply WO_fa (hn := rfl)
      exact lk
      · exact rfl
      (apply WO_gt; exact uk)
      apply WO_ld (hn := rfl)
      exact lk
      · exact ld3_1 rfl rfl rfl b0
      (apply WO_gt; exact uk; apply WO_b1 (hn := rfl) (hb := rfl); exact lk; exact nk; apply WO_gt; exact uk; apply WO_bin (hn := rfl); exact lk; exact lk; exact bk)
      apply WO_pkt (hn := rfl)
      exact lk
      · exact rfl
      exact lk
      apply WO_fa (hn := rfl)
      exact lk
      · exact rfl
      apply WO_st
      exact lk
      exact lk
      · exact st3_0 b0
      exact WO_nil ⟨_, rfl, gk, gk⟩
  rintro _ ⟨tm, rfl, g3, g4⟩
  have b2 : (me.upd 0 (.cells [.bool (n && decide ((0 : Int) < (a.length : Int))), pn, pd] 0 false 36)).get 0 = some (.cells [.bool (n && decide ((0 : Int) < (a.length : Int))), pn, pd] 0 false 36) := by rw [PM.get_upd, if_pos rfl]
  have b3 : (me.upd 0 (.cells [.bool (n && decide ((0 : Int) < (a.length : Int))), pn, pd] 0 false 36)).get 1 = some (.cells [.bool false, .nils, .nils] 0 false 36) := by rw [PM.get_upd, if_neg (by decide)]; exact b1
  generalize me.upd 0 (.cells [.bool (n && decide ((0 : Int) < (a.length : Int))), pn, pd] 0 false 36) = me2 at *
  show WC E _ _ _; repeat first | refine WC_seq ?_ | refine WC_block ?_ | refine WC_region ?_
  apply WO_ld (hn := rfl)
  exact lk
  · exact ld3 rfl b2
  apply WO_st
  exact lk
  exact lk
  · exact st3 b3 rfl (Lim.cell h) (Lim.cell h')
  refine WO_nil ?_
  show WC E _ _ _
  refine WC_ret ?_
  show BodyQ _ _ _ _ _
  exact fin3c rfl ex_ret rfl gk (by rw [PM.get_upd, if_pos rfl]) ⟨_, _, reify_a3 rfl (Lim.flat h) (Lim.flat h'), rfl⟩

theorem rat_Neg {r : Rat} {v : PV} (h : RatW r v) : ∃ w, RatP (-r) w ∧ ∀ m, Ev E 192 [v] m w m := by
  obtain ⟨w, hw, hw2⟩ := rat_Norm h
  obtain ⟨s, pa, pb, a, b, rfl, h1, h2, h3, h4, h5, h6, h7⟩ := h
  obtain ⟨pn, pd, rfl, k1, k0, k2⟩ := hw
  refine Ev_isoR rfl rfl rfl (re_agg (flats3 rfl (Lim.flat h1) (Lim.flat h2))) (fn := Go.Proofs.Tryz.f192) rfl rfl rfl ?_
  show WC E _ ⟨Tr.leaf.set 0 _, 10, _, _⟩ _
  repeat first | refine WC_seq ?_ | refine WC_block ?_ | refine WC_region ?_
  apply WO_bx (hn := rfl)
  exact lk
  · exact bx3 rfl (Lim.cell h1) (Lim.cell h2)
  apply WO_al (hn := rfl)
  · exact rfl
  rw [show PM.empty.next = 0 from rfl, show (PM.empty.new (.cells [.bool s, pa, pb] 0 false 36)).next = 1 from rfl]
  have b0 : ((PM.empty.new (.cells [.bool s, pa, pb] 0 false 36)).new (.cells [.bool false, .nils, .nils] 0 false 36)).get 0 = some (.cells [.bool s, pa, pb] 0 false 36) := two_get0
  have b1 : ((PM.empty.new (.cells [.bool s, pa, pb] 0 false 36)).new (.cells [.bool false, .nils, .nils] 0 false 36)).get 1 = some (.cells [.bool false, .nils, .nils] 0 false 36) := two_get1
  generalize ((PM.empty.new (.cells [.bool s, pa, pb] 0 false 36)).new (.cells [.bool false, .nils, .nils] 0 false 36)) = me at *
  refine WO_nil ?_; show WC E _ _ _; repeat first | refine WC_seq ?_ | refine WC_block ?_ | refine WC_region ?_
  apply WO_ld (hn := rfl)
  exact lk
  · exact ld3 rfl b0
  apply WO_ca (hn := rfl) (.agg [.bool (decide (r.num < 0)), pn, pd]) me
  · exact evs1 lk
  · exact hw2 me
  apply WO_st
  exact lk
  exact lk
  · exact st3 b0 rfl (Lim.cell k1) (Lim.cell k2)
  have b2 : (me.upd 0 (.cells [.bool (decide (r.num < 0)), pn, pd] 0 false 36)).get 0 = some (.cells [.bool (decide (r.num < 0)), pn, pd] 0 false 36) := by rw [PM.get_upd, if_pos rfl]
  have b3 : (me.upd 0 (.cells [.bool (decide (r.num < 0)), pn, pd] 0 false 36)).get 1 = some (.cells [.bool false, .nils, .nils] 0 false 36) := by rw [PM.get_upd, if_neg (by decide)]; exact b1
  generalize me.upd 0 (.cells [.bool (decide (r.num < 0)), pn, pd] 0 false 36) = me2 at *
  refine WO_nil ?_; show WC E _ _ _; repeat first | refine WC_seq ?_ | refine WC_block ?_ | refine WC_region ?_
  apply WO_fa (hn := rfl)
  exact lk
  · exact rfl
  apply WO_ld (hn := rfl)
  exact lk
  · exact ld3_0 rfl rfl rfl b2
  (apply WO_un (hn := rfl); exact lk; exact u_not)
  apply WO_ld (hn := rfl)
  exact lk
  · exact ld3 rfl b2
  apply WO_ca (hn := rfl) (.agg [.bool (!decide (r.num < 0) && decide (0 < (lm r.num.natAbs).length)), pn, pd]) me2
  · apply evs2
    exact lk
    exact lk
  · exact rat_signed k1 k2 me2
  apply WO_st
  exact lk
  exact lk
  · exact st3 b3 rfl (Lim.cell k1) (Lim.cell k2)
  refine WO_nil ?_
  show WC E _ _ _
  refine WC_ret ?_
  show BodyQ _ _ _ _ _
  refine fin3c rfl ex_ret rfl gk (by rw [PM.get_upd, if_pos rfl]) ⟨_, _, reify_a3 rfl (Lim.flat k1) (Lim.flat k2), pn, pd, ?_, ?_, ?_, ?_⟩
  · have e : (!decide (r.num < 0) && decide (0 < (lm r.num.natAbs).length)) = decide ((-r).num < 0) := by
      rw [Rat.neg_num]
      by_cases hr : r = 0
      · subst hr
        have : (lm ((0 : Rat).num.natAbs)).length = 0 := num_nil.2 rfl
        rw [this]; rfl
      · have h0 : (lm r.num.natAbs).length ≠ 0 := fun e => hr (num_nil.1 e)
        have hn : r.num ≠ 0 := fun e => hr (Rat.num_eq_zero.1 e)
        rw [decide_eq_true (show 0 < (lm r.num.natAbs).length by omega), Bool.and_true, ← decide_not]
        exact decide_eq_decide.2 (by omega)
    rw [e]
  · rw [Rat.neg_num, Int.natAbs_neg]; exact k1
  · intro h0
    exact k0 (by rw [← Rat.neg_neg r, h0]; rfl)
  · exact k2
end Go.Ab.T
