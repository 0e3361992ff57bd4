/- The loop of the statement answers true. -/
import Derived.Test.YtkidolggnmomcaaGreatDoorCh
set_option linter.unusedVariables false
set_option linter.unusedSimpArgs false
/- The statement's own loop. -/
open Go Go.Ab
namespace Go.Ab.T
set_option maxRecDepth 10000
set_option maxHeartbeats 2000000
set_option linter.unusedSimpArgs false
attribute [local irreducible] Tr.get Tr.set

section
variable {n : Nat}
theorem y22 : (EL n).ty 22 = some ⟨.slice 3 1 8 (some [.int .i64 0]), 1, some [.nils]⟩ := rfl
theorem y23 : (EL n).ty 23 = some ⟨.slice 36 3 56 (some [.bool false, .nils, .nils]), 1, some [.nils]⟩ := rfl
theorem y34 : (EL n).ty 34 = some ⟨.slice 68 1 4 (some [.int .u32 0]), 1, some [.nils]⟩ := rfl
theorem y29 : (EL n).ty 29 = some ⟨.slice 42 4 40 (some [.str [], .int .i64 0, .bool false, .int .i64 0]), 1, some [.nils]⟩ := rfl
theorem y9 : (EL n).ty 9 = some ⟨.string, 1, some [.str []]⟩ := rfl
theorem y36 : (EL n).ty 36 = some ⟨.struct [⟨0, 1, false⟩, ⟨1, 1, false⟩, ⟨2, 1, false⟩], 3, some [.bool false, .nils, .nils]⟩ := rfl

theorem y50 : (EL n).ty 50 = some ⟨.int .i64, 1, some [.int .i64 0]⟩ := rfl
theorem WD_pkF {E : Env} {all os : List Oper} {ty : TypeId} {pos : String} {after : Array Edge} {tm : Tr PV} {nt : Nat} {me : PM} {df : List (Nat × List PV)} {d : Nat} {x y z : Operand} {v : PV} {b : Bool} {i₀ : Nat} {prs : List (Option PV)} {tr : List Tri} {Q : St → List Tri → Prop} (hx : evo tm x = some (.bool b)) (hb : b = false) (hv : evo tm z = some v) (hn : Nat.blt d nt = true) (k : WD E all (Nat.succ i₀) prs os ⟨tm.set d v, nt, me, df⟩ tr Q) : WD E all i₀ (none :: prs) (⟨some d, .pick x y z, ty, pos, after, none⟩ :: os) ⟨tm, nt, me, df⟩ tr Q := by
  subst hb; exact WD_pk hx hv hn k

/-- the statement's loop, and what is behind it -/
theorem top_loop (h1 : 2 ≤ n) (h2 : n ≤ 8) {zs : List Int} {rs : List (Bool × PV × PV)} {pe pv : PV} (he : Ed zs pe) (hv : Va rs pv) (hz : zs.length ≤ 12) (hzr : zs.length ≤ rs.length) (hr : ∀ x ∈ rs, RawOk x) {tm : Tr PV} {me : PM}
    (t0 : tm.get 0 = some (.int .i64 (n : Int))) (t1 : tm.get 1 = some pe) (t2 : tm.get 2 = some pv) (t7 : tm.get 7 = some (.ptr 0 0 0)) (t11 : tm.get 11 = some (.ptr 6 0 0)) (hm : Mem n 0 (fun _ => 0) (fun _ => false) 0 me) :
    WC (EL n) restC ⟨tm, 175, me, []⟩ fun x s => x = .ret ∧ s.df = [] ∧ s.tm.get 6 = some (.bool true) := by
  show WC (EL n) (.seq _ _) _ _
  repeat first | refine WC_seq ?_ | refine WC_block ?_ | refine WC_region ?_
  (apply WO_as (hn := rfl); exact lk)
  refine WO_nil ?_; show WC _ _ _ _; repeat first | refine WC_seq ?_ | refine WC_block ?_ | refine WC_region ?_
  refine WC_loop (fun j s => ∃ (tm : Tr PV) (me : PM) (i t : Nat) (y : Nat → Rat) (fil : Nat → Bool) (len : Nat), s = ⟨tm, 175, me, []⟩ ∧ tm.get 0 = some (.int .i64 (n : Int)) ∧ tm.get 1 = some pe ∧ tm.get 2 = some pv ∧ tm.get 7 = some (.ptr 0 0 0) ∧ tm.get 11 = some (.ptr 6 0 0) ∧ tm.get 12 = some (.int .i64 (i : Int)) ∧ Mem n t y fil len me ∧ t < 2 ∧ (∀ l, l < n → Bd 2 (y l)) ∧ len ≤ i ∧ i ≤ zs.length ∧ j = zs.length - i) zs.length
    ⟨_, _, 0, 0, _, _, 0, rfl, gk, gk, gk, gk, gk, gk, hm, by decide, fun _ _ => Bd.zero (by decide), Nat.le_refl _, Nat.zero_le _, rfl⟩ ?_
  clear t0 t1 t2 t7 t11 hm
  rintro j s ⟨tm, me, i, t, y, fil, len, rfl, t0, t1, t2, t7, t11, t12, hm, ht, hy, hlen, hi, hj⟩
  repeat first | refine WC_seq ?_ | refine WC_block ?_ | refine WC_region ?_
  apply WO_mv (hn := rfl)
  exact lk
  apply WO_mv (hn := rfl)
  exact lk
  apply WO_b1 (hn := rfl) (hb := rfl)
  exact lk
  · exact len_ed y22 he
  (apply WO_bin (hn := rfl); exact lk; exact lk; exact bk)
  refine WO_nil ?_; show WC _ _ _ _; repeat first | refine WC_seq ?_ | refine WC_block ?_ | refine WC_region ?_
  apply WC_cond; (focus (apply condOf_t; (focus (first | (apply evo_t; (repeat (first | exact get_hit | assumption | refine get_miss rfl ?_ | fail)); done) | (exact rfl) | fail))))
  · intro hlt
    have hlt : i < zs.length := by have := of_decide_eq_true hlt; omega
    obtain ⟨x, hx⟩ : ∃ x, rs[i]? = some x := ⟨_, List.getElem?_eq_getElem (by omega)⟩
    obtain ⟨a, b, la, lb, oa, ob⟩ := hr x (List.mem_of_getElem? hx)
    obtain ⟨s, pa, pb⟩ := x
    simp only at la lb
    refine WC_skip ?_
    show WC _ _ _ _; repeat first | refine WC_seq ?_ | refine WC_block ?_ | refine WC_region ?_
    obtain ⟨z, tl, hz1⟩ := ia_ed he hlt
    obtain ⟨u, hu1, hu2⟩ := b_and1023 z
    have hk : u % n < n := Nat.mod_lt _ (by omega)
    apply WO_mv (hn := rfl)
    exact lk
    apply WO_mv (hn := rfl)
    exact lk
    apply WO_ia (hn := rfl)
    exact lk
    exact lk
    · exact hz1
    apply WO_ld (hn := rfl)
    exact lk
    · exact ld_v3
    apply WO_bin (hn := rfl)
    exact lk
    · exact rfl
    · exact hu2 _ _
    apply WO_mv (hn := rfl)
    exact lk
    apply WO_bin (hn := rfl)
    exact lk
    exact lk
    · exact b_remI (by omega)
    (apply WO_as (hn := rfl); exact lk)
    generalize u % n = K at hk ⊢
    clear hz1 hu1 hu2
    refine WO_nil ?_; show WC _ _ _ _; repeat first | refine WC_seq ?_ | refine WC_block ?_ | refine WC_region ?_
    obtain ⟨tl2, hv1⟩ := ia_va hv hx
    apply WO_mv (hn := rfl)
    exact lk
    apply WO_mv (hn := rfl)
    exact lk
    apply WO_ia (hn := rfl)
    exact lk
    exact lk
    · exact hv1
    apply WO_fa (hn := rfl)
    exact lk
    · exact rfl
    apply WO_ld (hn := rfl)
    exact lk
    · exact ld_v34
    apply WO_b1 (hn := rfl) (hb := rfl)
    exact lk
    · exact len_lim y34 la
    apply WO_bin (hn := rfl)
    exact lk
    · exact rfl
    · exact b_gtr
    by_cases hA : 2 < a.length
    · rw [decide_eq_true (show (2 : Int) < (a.length : Int) by omega)]
      (apply WO_mv (hn := rfl); exact lk; apply WO_gf; exact uk; exact rfl; apply WO_gf; exact uk; exact rfl; apply WO_gf; exact uk; exact rfl; apply WO_gf; exact uk; exact rfl; apply WO_gf; exact uk; exact rfl; apply WO_gf; exact uk; exact rfl; apply WO_gf; exact uk; exact rfl)
      apply WO_pkt (hn := rfl)
      exact lk
      · exact rfl
      · exact rfl
      (apply WO_mv (hn := rfl); exact lk; apply WO_gf; exact uk; exact rfl; apply WO_gf; exact uk; exact rfl; apply WO_gf; exact uk; exact rfl; apply WO_gf; exact uk; exact rfl; apply WO_gf; exact uk; exact rfl; apply WO_gf; exact uk; exact rfl)
      apply WO_pkt (hn := rfl)
      exact lk
      · exact rfl
      · exact rfl
      refine WO_nil ?_; show WC _ _ _ _; repeat first | refine WC_seq ?_ | refine WC_block ?_ | refine WC_region ?_
      apply WC_cond; (focus (apply condOf_t; (focus (first | (apply evo_t; (repeat (first | exact get_hit | assumption | refine get_miss rfl ?_ | fail)); done) | (exact rfl) | fail))))
      · intro _
        show WC _ _ _ _; repeat first | refine WC_seq ?_ | refine WC_block ?_ | refine WC_region ?_
        apply WO_ca (hn := rfl) (.bool true) me
        · exact rfl
        · exact Ev_known me
        (apply WO_as (hn := rfl); exact lk)
        refine WO_nil ?_; show WC _ _ _ _; repeat first | refine WC_seq ?_ | refine WC_block ?_ | refine WC_region ?_
        refine WC_ret ?_
        exact ⟨rfl, rfl, gk⟩
      · intro hh
        cases hh
    · rw [decide_eq_false (show ¬ (2 : Int) < (a.length : Int) by omega)]
      (apply WO_mv (hn := rfl); exact lk; apply WO_gt; exact uk; apply WO_mv (hn := rfl); exact lk; apply WO_gt; exact uk; apply WO_mv (hn := rfl); exact lk; apply WO_gt; exact uk)
      apply WO_ia (hn := rfl)
      exact lk
      exact lk
      · exact hv1
      (apply WO_gt; exact uk)
      apply WO_fa (hn := rfl)
      exact lk
      · exact rfl
      (apply WO_gt; exact uk)
      apply WO_ld (hn := rfl)
      exact lk
      · exact ld_v34
      (apply WO_gt; exact uk)
      apply WO_b1 (hn := rfl) (hb := rfl)
      exact lk
      · exact len_lim y34 lb
      (apply WO_gt; exact uk)
      apply WO_bin (hn := rfl)
      exact lk
      · exact rfl
      · exact b_gtr
      apply WO_pkf (hn := rfl)
      exact lk
      · exact rfl
      exact lk
      by_cases hB : 2 < b.length
      · rw [decide_eq_true (show (2 : Int) < (b.length : Int) by omega)]
        (apply WO_mv (hn := rfl); exact lk; apply WO_gf; exact uk; exact rfl; apply WO_gf; exact uk; exact rfl; apply WO_gf; exact uk; exact rfl; apply WO_gf; exact uk; exact rfl; apply WO_gf; exact uk; exact rfl; apply WO_gf; exact uk; exact rfl)
        apply WO_pkt (hn := rfl)
        exact lk
        · exact rfl
        · exact rfl
        refine WO_nil ?_; show WC _ _ _ _; repeat first | refine WC_seq ?_ | refine WC_block ?_ | refine WC_region ?_
        apply WC_cond; (focus (apply condOf_t; (focus (first | (apply evo_t; (repeat (first | exact get_hit | assumption | refine get_miss rfl ?_ | fail)); done) | (exact rfl) | fail))))
        · intro _
          show WC _ _ _ _; repeat first | refine WC_seq ?_ | refine WC_block ?_ | refine WC_region ?_
          apply WO_ca (hn := rfl) (.bool true) me
          · exact rfl
          · exact Ev_known me
          (apply WO_as (hn := rfl); exact lk)
          refine WO_nil ?_; show WC _ _ _ _; repeat first | refine WC_seq ?_ | refine WC_block ?_ | refine WC_region ?_
          refine WC_ret ?_
          exact ⟨rfl, rfl, gk⟩
        · intro hh
          cases hh
      · rw [decide_eq_false (show ¬ (2 : Int) < (b.length : Int) by omega)]
        obtain ⟨q, hq1, hq2⟩ := r2_Is la lb oa ob (by omega) (by omega) rfl (s := s)
        generalize hvv : rq s (nv a) (nv b) = vv at hq1
        (apply WO_mv (hn := rfl); exact lk; apply WO_gt; exact uk; apply WO_mv (hn := rfl); exact lk; apply WO_gt; exact uk; apply WO_mv (hn := rfl); exact lk; apply WO_gt; exact uk)
        apply WO_ia (hn := rfl)
        exact lk
        exact lk
        · exact hv1
        (apply WO_gt; exact uk)
        apply WO_ld (hn := rfl)
        exact lk
        · exact ld_v36
        (apply WO_gt; exact uk)
        apply WO_ca (hn := rfl) (.bool q) me
        · exact evs1 lk
        · exact Ev_top rfl (flat1_3 la lb) hq2 me
        (apply WO_gt; exact uk; apply WO_un (hn := rfl); exact lk; exact u_not)
        apply WO_pkf (hn := rfl)
        exact lk
        · exact rfl
        exact lk
        refine WO_nil ?_; show WC _ _ _ _; repeat first | refine WC_seq ?_ | refine WC_block ?_ | refine WC_region ?_
        cases q with
        | false =>
          apply WC_cond; (focus (apply condOf_t; (focus (first | (apply evo_t; (repeat (first | exact get_hit | assumption | refine get_miss rfl ?_ | fail)); done) | (exact rfl) | fail))))
          · intro _
            show WC _ _ _ _; repeat first | refine WC_seq ?_ | refine WC_block ?_ | refine WC_region ?_
            apply WO_ca (hn := rfl) (.bool true) me
            · exact rfl
            · exact Ev_known me
            (apply WO_as (hn := rfl); exact lk)
            refine WO_nil ?_; show WC _ _ _ _; repeat first | refine WC_seq ?_ | refine WC_block ?_ | refine WC_region ?_
            refine WC_ret ?_
            exact ⟨rfl, rfl, gk⟩
          · intro hh
            cases hh
        | true =>
          apply WC_cond; (focus (apply condOf_t; (focus (first | (apply evo_t; (repeat (first | exact get_hit | assumption | refine get_miss rfl ?_ | fail)); done) | (exact rfl) | fail))))
          · intro hh
            cases hh
          · intro _
            obtain ⟨hraw, hla, hlb⟩ := hq1 rfl
            have hvb : Bd 2 vv := ⟨by rw [← hla]; omega, by rw [← hlb]; omega⟩
            clear hq1 hq2
            refine WC_skip ?_
            show WC _ _ _ _; repeat first | refine WC_seq ?_ | refine WC_block ?_ | refine WC_region ?_
            (apply WC_draw; (focus exact rfl))
            have hnx := hm.nx
            have hmA := hm.new (.cells [.int .i64 0, .nils, .str []] 0 false 53)
            have hbA : (me.new (.cells [.int .i64 0, .nils, .str []] 0 false 53)).get me.next = some (.cells [.int .i64 0, .nils, .str []] 0 false 53) := by rw [PM.get_new, if_pos rfl]
            have hnA : (me.new (.cells [.int .i64 0, .nils, .str []] 0 false 53)).next = me.next + 1 := rfl
            have hmB := hm
            generalize me.new (.cells [.int .i64 0, .nils, .str []] 0 false 53) = mA at *
            generalize hb14 : me.next = b14 at *
            obtain ⟨cs, hc1, hc2⟩ := hmA.f
            (apply WD_mv (hn := rfl); exact lk)
            apply WD_fa (hn := rfl)
            exact lk
            · exact rfl
            apply WD_ld (hn := rfl)
            exact lk
            · exact y29
            · exact ld_f rfl rfl rfl hc1 hc2
            (apply WD_mv (hn := rfl); exact lk)
            apply WD_ia (hn := rfl)
            exact lk
            exact lk
            · exact ia_names hk
            apply WD_fa (hn := rfl)
            exact lk
            · exact rfl
            apply WD_ld (hn := rfl)
            exact lk
            · exact y9
            · exact ld_f rfl rfl rfl hmA.F (name_at h1 h2 hk)
            (apply WD_mv (hn := rfl); exact lk; apply WD_mv (hn := rfl); exact lk)
            apply WD_ia (hn := rfl)
            exact lk
            exact lk
            · exact hv1
            apply WD_ld (hn := rfl)
            exact lk
            · exact y36
            · exact ld_v36
            apply WD_bd (hn := rfl)
            · apply evps3
              · exact rfl
              exact lk
              exact lk
            · exact rfl
            obtain ⟨w, hw, hE⟩ := Ev_do (n := n) (m := mA) (x := ⟨t, K, y, vv, s, pa, pb, fil, len, 6, 0⟩) (l := [.ptr 6 0 0, opL K s pa pb]) ⟨⟨h1, h2, ht, hk, hy, hvb, hraw, (by show len ≤ 12; omega)⟩, rfl, hmA.e⟩
            apply WD_ca (hn := rfl) ansOk (mA.upd w.b (.cells (w.out n) w.g false 76))
            · apply evs2
              exact lk
              exact lk
            · exact hE
            · exact rfl
            apply WD_al (hn := rfl)
            have hwe := hw.e
            have hwl := hw.l
            have hlen' := eng_len (Option.some.inj (hmA.e.symm.trans (by
              have e := hw.b
              have e6 : w.b = 6 := by
                have := hw.l
                simp only [List.cons.injEq, PV.ptr.injEq] at this
                exact this.1.1.symm
              rw [e6] at e
              exact e)) |> fun h => (Blk.cells.inj h).1)
            obtain ⟨wt, wk, wy, wv, ws, wpa, wpb, wfil, wlen, wb, wg⟩ := w
            simp only [opL, List.cons.injEq, PV.ptr.injEq, PV.agg.injEq, PV.bool.injEq, and_true, true_and] at hwl
            simp only at hwe hlen'
            obtain ⟨⟨hwb, hwg⟩, hwk, hws, hwpa, hwpb⟩ := hwl
            subst hwb hwg hws hwpa hwpb hlen'
            have hwk2 := name_inj (show K < 8 by omega) (show wk < 8 by have := hwe.hk; omega) hwk
            subst hwk2
            simp only [DoD.out] at hE ⊢
            have hm1 := hmA.eng (n := n) (t' := toldBy wt K) (y' := upd wy K wv) (fil' := fun i => if i = K then true else wfil i) (len' := len + 1)
            have hwt := toldBy_lt (k := K) hwe.ht
            have hwy : ∀ l, l < n → Bd 2 (upd wy K wv l) := fun l hl => by
              unfold upd
              split
              · exact hwe.hv
              · exact hwe.hy l hl
            have hwv : nm n (toldBy wt K) (upd wy K wv) K = wv := by
              unfold nm
              rw [if_neg (toldBy_ne wt K)]
              simp only [upd, if_true]
            have hwr := hwe.raw
            have hwb2 := hwe.hv
            clear hw hwe hE hwk
            generalize toldBy wt K = t' at hwt hm1 hwv ⊢
            generalize upd wy K wv = y' at hwy hm1 hwv ⊢
            generalize (fun i => if i = K then true else wfil i) = fil' at hm1 ⊢
            have hb1 : (mA.upd 6 (.cells (engL n t' y' fil' (len + 1)) 0 false 76)).get b14 = some (.cells [.int .i64 0, .nils, .str []] 0 false 53) := by rw [PM.get_upd, if_neg (by omega)]; exact hbA
            have hn1 : (mA.upd 6 (.cells (engL n t' y' fil' (len + 1)) 0 false 76)).next = b14 + 1 := hnA
            generalize mA.upd 6 (.cells (engL n t' y' fil' (len + 1)) 0 false 76) = m1 at *
            apply WD_st
            exact lk
            exact lk
            · exact st_ans hb1
            refine WD_nil ⟨rfl, ?_⟩
            have hm2 := hm1.upd (b := b14) (by omega) (.cells [.int .i64 0, .nils, .str []] 0 false 53)
            have hb2 : (m1.upd b14 (.cells [.int .i64 0, .nils, .str []] 0 false 53)).get b14 = some (.cells [.int .i64 0, .nils, .str []] 0 false 53) := by rw [PM.get_upd, if_pos rfl]
            have hn2 : (m1.upd b14 (.cells [.int .i64 0, .nils, .str []] 0 false 53)).next = b14 + 1 := hn1
            generalize m1.upd b14 (.cells [.int .i64 0, .nils, .str []] 0 false 53) = m2 at *
            show WC _ _ _ _
            repeat first | refine WC_seq ?_ | refine WC_block ?_ | refine WC_region ?_
            apply WO_fa (hn := rfl)
            exact lk
            · exact rfl
            apply WO_ld (hn := rfl)
            exact lk
            · exact ld_f rfl rfl rfl hb2 rfl
            (apply WO_bin (hn := rfl); exact lk; exact lk; exact bk)
            refine WO_nil ?_; show WC _ _ _ _; repeat first | refine WC_seq ?_ | refine WC_block ?_ | refine WC_region ?_
            apply WC_cond; (focus (apply condOf_t; (focus (first | (apply evo_t; (repeat (first | exact get_hit | assumption | refine get_miss rfl ?_ | fail)); done) | (exact rfl) | fail))))
            · intro hh
              exact absurd hh (by decide)
            · intro _
              refine WC_skip ?_
              show WC _ _ _ _; repeat first | refine WC_seq ?_ | refine WC_block ?_ | refine WC_region ?_
              obtain ⟨w2, hw2, hE2⟩ := Ev_doc (n := n) (m := m2) (x := ⟨t', y', fil', len + 1, 6, 0⟩) (l := [.ptr 6 0 0]) ⟨h1, h2, hwt, hwy, (by show len + 1 ≤ 12; omega), rfl, hm2.e⟩
              have hw2b := hw2.b
              have hw2t := hw2.t
              have hw2y := hw2.y
              have hw2l := hw2.l
              obtain ⟨w2t, w2y, w2fil, w2len, w2b, w2g⟩ := w2
              simp only [List.cons.injEq, PV.ptr.injEq, and_true, true_and] at hw2l
              obtain ⟨hwb, hwg⟩ := hw2l
              subst hwb hwg
              simp only at hw2b hw2t hw2y hE2
              have heq := (Blk.cells.inj (Option.some.inj (hm2.e.symm.trans hw2b))).1
              have hdoc := eng_inj heq
              have hwl2 := eng_len heq
              have hm3 := hm2.eng (n := n) (t' := w2t) (y' := w2y) (fil' := w2fil) (len' := w2len)
              rw [← hdoc] at hE2
              have hb3 : (m2.upd 6 (.cells (engL n w2t w2y w2fil w2len) 0 false 76)).get b14 = some (.cells [.int .i64 0, .nils, .str []] 0 false 53) := by rw [PM.get_upd, if_neg (by omega)]; exact hb2
              have hn3 : (m2.upd 6 (.cells (engL n w2t w2y w2fil w2len) 0 false 76)).next = b14 + 1 := hn2
              clear hm hmB hmA hm1 hm2 hw2 hw2b heq hdoc
              apply WO_mv (hn := rfl)
              exact lk
              apply WO_ca (hn := rfl) (.agg (docL n t' y' fil')) (m2.upd 6 (.cells (engL n w2t w2y w2fil w2len) 0 false 76))
              · exact evs1 lk
              · exact hE2
              generalize m2.upd 6 (.cells (engL n w2t w2y w2fil w2len) 0 false 76) = m3 at *
              clear hE2
              apply WO_al (hn := rfl)
              · exact rfl
              have hm4 := hm3.new (.cells [.nils, .nils, .nils, .nils, .nils, .nils] 0 false 60)
              have hb4 : (m3.new (.cells [.nils, .nils, .nils, .nils, .nils, .nils] 0 false 60)).get b14 = some (.cells [.int .i64 0, .nils, .str []] 0 false 53) := by rw [PM.get_new, if_neg (by omega)]; exact hb3
              have hd4 : (m3.new (.cells [.nils, .nils, .nils, .nils, .nils, .nils] 0 false 60)).get (b14 + 1) = some (.cells [.nils, .nils, .nils, .nils, .nils, .nils] 0 false 60) := by rw [PM.get_new, if_pos hn3]
              have hn4 : (m3.new (.cells [.nils, .nils, .nils, .nils, .nils, .nils] 0 false 60)).next = b14 + 2 := by rw [PM.next_new, hn3]
              rw [hn3]
              generalize m3.new (.cells [.nils, .nils, .nils, .nils, .nils, .nils] 0 false 60) = m4 at *
              apply WO_st
              exact lk
              exact lk
              · exact st_doc hd4
              have hm5 := hm4.upd (b := b14 + 1) (by omega) (.cells (docL n t' y' fil') 0 false 60)
              have hb5 : (m4.upd (b14 + 1) (.cells (docL n t' y' fil') 0 false 60)).get b14 = some (.cells [.int .i64 0, .nils, .str []] 0 false 53) := by rw [PM.get_upd, if_neg (by omega)]; exact hb4
              have hd5 : (m4.upd (b14 + 1) (.cells (docL n t' y' fil') 0 false 60)).get (b14 + 1) = some (.cells (docL n t' y' fil') 0 false 60) := by rw [PM.get_upd, if_pos rfl]
              have hn5 : (m4.upd (b14 + 1) (.cells (docL n t' y' fil') 0 false 60)).next = b14 + 2 := hn4
              generalize m4.upd (b14 + 1) (.cells (docL n t' y' fil') 0 false 60) = m5 at *
              clear hm3 hm4 hb1 hb2 hb3 hb4 hd4
              refine WO_nil ?_; show WC _ _ _ _; repeat first | refine WC_seq ?_ | refine WC_block ?_ | refine WC_region ?_
              obtain ⟨q0, hq0, hq0'⟩ := r2_Int (n := 0) (by decide)
              rw [show ((0 : Nat) : Rat) = 0 from rfl] at hq0
              apply WO_ca (hn := rfl) q0 m5
              · apply evs1
                exact rfl
              · exact Ev_top rfl rfl hq0' m5
              apply WO_al (hn := rfl)
              · exact rfl
              have hm6 := hm5.new (.cells [.bool false, .nils, .nils] 0 false 36)
              have hb6 : (m5.new (.cells [.bool false, .nils, .nils] 0 false 36)).get b14 = some (.cells [.int .i64 0, .nils, .str []] 0 false 53) := by rw [PM.get_new, if_neg (by omega)]; exact hb5
              have hd6 : (m5.new (.cells [.bool false, .nils, .nils] 0 false 36)).get (b14 + 1) = some (.cells (docL n t' y' fil') 0 false 60) := by rw [PM.get_new, if_neg (by omega)]; exact hd5
              have hs6 : (m5.new (.cells [.bool false, .nils, .nils] 0 false 36)).get (b14 + 2) = some (.cells [.bool false, .nils, .nils] 0 false 36) := by rw [PM.get_new, if_pos hn5]
              rw [hn5]
              generalize m5.new (.cells [.bool false, .nils, .nils] 0 false 36) = m6 at *
              obtain ⟨pn, pd, rfl, k1, k0, k2⟩ := hq0
              apply WO_st
              exact lk
              exact lk
              · exact st3 hs6 rfl (Lim.cell k1) (Lim.cell k2)
              have hm7 := hm6.upd (b := b14 + 2) (by omega) (.cells [.bool (decide ((0 : Rat).num < 0)), pn, pd] 0 false 36)
              have hb7 : (m6.upd (b14 + 2) (.cells [.bool (decide ((0 : Rat).num < 0)), pn, pd] 0 false 36)).get b14 = some (.cells [.int .i64 0, .nils, .str []] 0 false 53) := by rw [PM.get_upd, if_neg (by omega)]; exact hb6
              have hd7 : (m6.upd (b14 + 2) (.cells [.bool (decide ((0 : Rat).num < 0)), pn, pd] 0 false 36)).get (b14 + 1) = some (.cells (docL n t' y' fil') 0 false 60) := by rw [PM.get_upd, if_neg (by omega)]; exact hd6
              have hs7 : (m6.upd (b14 + 2) (.cells [.bool (decide ((0 : Rat).num < 0)), pn, pd] 0 false 36)).get (b14 + 2) = some (.cells [.bool (decide ((0 : Rat).num < 0)), pn, pd] 0 false 36) := by rw [PM.get_upd, if_pos rfl]
              generalize m6.upd (b14 + 2) (.cells [.bool (decide ((0 : Rat).num < 0)), pn, pd] 0 false 36) = m7 at *
              clear hm5 hm6 hb5 hb6 hd5 hd6 hs6 hn4 hn5
              refine WO_nil ?_; show WC _ _ _ _; repeat first | refine WC_seq ?_ | refine WC_block ?_ | refine WC_region ?_
              (apply WO_as (hn := rfl); exact lk)
              refine WO_nil ?_; show WC _ _ _ _; repeat first | refine WC_seq ?_ | refine WC_block ?_ | refine WC_region ?_
              refine WC_loop (fun j s => ∃ (tm : Tr PV) (me : PM) (l : Nat) (pn pd : PV), s = ⟨tm, 175, me, []⟩ ∧ tm.get 0 = some (.int .i64 (n : Int)) ∧ tm.get 1 = some pe ∧ tm.get 2 = some pv ∧ tm.get 7 = some (.ptr 0 0 0) ∧ tm.get 11 = some (.ptr 6 0 0) ∧ tm.get 12 = some (.int .i64 (i : Int)) ∧ tm.get 13 = some (.int .i64 (K : Int)) ∧ tm.get 14 = some (.ptr b14 0 0) ∧ tm.get 15 = some (.ptr (b14 + 1) 0 0) ∧ tm.get 16 = some (.ptr (b14 + 2) 0 0) ∧ tm.get 17 = some (.int .i64 (l : Int)) ∧ Mem n w2t w2y w2fil w2len me ∧ me.get b14 = some (.cells [.int .i64 0, .nils, .str []] 0 false 53) ∧ me.get (b14 + 1) = some (.cells (docL n t' y' fil') 0 false 60) ∧ me.get (b14 + 2) = some (.cells [.bool (decide ((sumTo (nm n t' y') l).num < 0)), pn, pd] 0 false 36) ∧ RatP (sumTo (nm n t' y') l) (.agg [.bool (decide ((sumTo (nm n t' y') l).num < 0)), pn, pd]) ∧ l ≤ n ∧ j = n - l) n
                ⟨_, _, 0, pn, pd, rfl, gk, gk, gk, gk, gk, gk, gk, gk, gk, gk, gk, hm7, hb7, hd7, hs7, ⟨pn, pd, rfl, k1, k0, k2⟩, Nat.zero_le _, rfl⟩ ?_
              clear t0 t1 t2 t7 t11 t12 hm7 hb7 hd7 hs7 k0 k1 k2 hq0'
              rintro j2 s2 ⟨tm, me, l, pn, pd, rfl, t0, t1, t2, t7, t11, t12, t13, t14, t15, t16, t17, hm, hb, hd, hs, hP, hl, hj2⟩
              obtain ⟨_, _, eP, k1, k0, k2⟩ := hP
              cases eP
              have hbs := nmsum_bd (n := n) (t := t') (y := y') h2 hwy hl
              repeat first | refine WC_seq ?_ | refine WC_block ?_ | refine WC_region ?_
              (apply WO_mv (hn := rfl); exact lk)
              apply WO_fa (hn := rfl)
              exact lk
              · exact rfl
              apply WO_ld (hn := rfl)
              exact lk
              · exact ld_f rfl rfl rfl hd rfl
              apply WO_b1 (hn := rfl) (hb := rfl)
              exact lk
              · exact len_vsl y23
              (apply WO_bin (hn := rfl); exact lk; exact lk; exact bk)
              refine WO_nil ?_; show WC _ _ _ _; repeat first | refine WC_seq ?_ | refine WC_block ?_ | refine WC_region ?_
              apply WC_cond; (focus (apply condOf_t; (focus (first | (apply evo_t; (repeat (first | exact get_hit | assumption | refine get_miss rfl ?_ | fail)); done) | (exact rfl) | fail))))
              · intro hln
                have hln : l < n := by have := of_decide_eq_true hln; omega
                have hbl := nm_bd (t := t') h2 hwy l hln
                obtain ⟨tl3, hr3⟩ := ia_row (f := nm n t' y') hln
                obtain ⟨q, hq, hq2⟩ := r2_Add (RatP.w ⟨pn, pd, rfl, k1, k0, k2⟩ (hbs.le (by decide))) ((canR_p (nm n t' y' l)).w (hbl.le (by decide))) (hbs.le (by decide)) (hbl.le (by decide))
                refine WC_skip ?_
                show WC _ _ _ _; repeat first | refine WC_seq ?_ | refine WC_block ?_ | refine WC_region ?_
                (apply WC_draw; (focus exact rfl))
                apply WD_ld (hn := rfl)
                exact lk
                · exact y36
                · exact ld3 ty36.symm hs
                apply WD_fa (hn := rfl)
                exact lk
                · exact rfl
                apply WD_ld (hn := rfl)
                exact lk
                · exact y23
                · exact ld_f rfl rfl rfl hd rfl
                (apply WD_mv (hn := rfl); exact lk)
                apply WD_ia (hn := rfl)
                exact lk
                exact lk
                · exact hr3
                apply WD_ld (hn := rfl)
                exact lk
                · exact y36
                · exact ld_v36
                apply WD_pu (hn := rfl) q
                · apply evs2
                  exact lk
                  exact lk
                · exact Ev_top rfl (flat1_33 k1 k2 (limR_lim _) (limR_lim _)) hq2 me
                · exact flat1_33 k1 k2 (limR_lim _) (limR_lim _)
                obtain ⟨pn2, pd2, rfl, c1, c0, c2⟩ := hq
                apply WD_st
                exact lk
                exact lk
                · exact st3 hs rfl (Lim.cell c1) (Lim.cell c2)
                refine WD_nil ⟨rfl, ?_⟩
                show WC _ _ _ _
                repeat first | refine WC_seq ?_ | refine WC_block ?_ | refine WC_region ?_
                (apply WO_mv (hn := rfl); exact lk; apply WO_bin (hn := rfl); exact lk; exact lk; exact bk; apply WO_as (hn := rfl); exact lk)
                refine WO_nil ?_
                refine ⟨j2 - 1, by omega, _, _, l + 1, pn2, pd2, rfl, gk, gk, gk, gk, gk, gk, gk, gk, gk, gk, gk, hm.upd (by omega) _, ?_, ?_, ?_, ⟨pn2, pd2, rfl, c1, c0, c2⟩, by omega, by omega⟩
                · rw [PM.get_upd, if_neg (by omega)]; exact hb
                · rw [PM.get_upd, if_neg (by omega)]; exact hd
                · rw [PM.get_upd, if_pos rfl]; rfl
              · intro hln
                have hln : l = n := by have := of_decide_eq_false hln; omega
                subst l
                have e100 := nm_sum (t := t') (y := y') (show t' < n by omega)
                rw [e100] at hs k0 k1 k2
                obtain ⟨tl3, hr3⟩ := ia_row (f := nm n t' y') hk
                obtain ⟨q9, hq9, hq9'⟩ := r2_Int (n := 100) (by decide)
                rw [show ((100 : Nat) : Rat) = 100 from rfl] at hq9
                obtain ⟨p9, d9, rfl, c1, c0, c2⟩ := hq9
                have hb9 : Bd 30 (100 : Rat) := bd100.le (by decide)
                have hsame2 : ∀ m, Ev E 11 [.agg [.bool (decide ((100 : Rat).num < 0)), pn, pd], .agg [.bool (decide ((100 : Rat).num < 0)), p9, d9]] m (.bool true) m := fun m => by
                  have := r2_Same (RatP.w ⟨pn, pd, rfl, k1, k0, k2⟩ (hb9.le (by decide))) (RatP.w ⟨p9, d9, rfl, c1, c0, c2⟩ (hb9.le (by decide))) (hb9.le (by decide)) (hb9.le (by decide)) m
                  rw [decide_eq_true rfl] at this
                  exact this
                have hsame1 : ∀ m, Ev E 11 [.agg (canC (nm n t' y' K)), .agg [.bool s, pa, pb]] m (.bool true) m := fun m => by
                  have := r2_Same ((canR_p (nm n t' y' K)).w (by rw [hwv]; exact hwb2.le (by decide))) (hwr.w (hwb2.le (by decide))) (by rw [hwv]; exact hwb2.le (by decide)) (hwb2.le (by decide)) m
                  rw [decide_eq_true hwv] at this
                  exact this
                refine WC_exit ?_
                show WC _ _ _ _
                repeat first | refine WC_seq ?_ | refine WC_block ?_ | refine WC_region ?_
                (apply WC_draw; (focus exact rfl))
                apply WD_fa (hn := rfl)
                exact lk
                · exact rfl
                apply WD_ld (hn := rfl)
                exact lk
                · exact y50
                · exact ld_f rfl rfl rfl hb rfl
                apply WD_bin (hn := rfl) (v := .bool false)
                exact lk
                · exact rfl
                · exact rfl
                (apply WD_mv (hn := rfl); exact lk; apply WD_gt; exact uk)
                apply WD_fa (hn := rfl)
                exact lk
                · exact rfl
                (apply WD_gt; exact uk)
                apply WD_ld (hn := rfl)
                exact lk
                · exact y23
                · exact ld_f rfl rfl rfl hd rfl
                (apply WD_gt; exact uk)
                apply WD_b1 (hn := rfl) (hb := rfl)
                exact lk
                · exact len_vsl y23
                (apply WD_gt; exact uk; apply WD_mv (hn := rfl); exact lk; apply WD_gt; exact uk; apply WD_bin (hn := rfl); exact lk; exact lk; exact bk)
                rw [show (!decide ((n : Int) = (n : Int))) = false by simp]
                apply WD_pkF (hn := rfl)
                exact lk
                · exact rfl
                exact lk
                (apply WD_mv (hn := rfl); exact lk; apply WD_gt; exact uk)
                apply WD_fa (hn := rfl)
                exact lk
                · exact rfl
                (apply WD_gt; exact uk)
                apply WD_ld (hn := rfl)
                exact lk
                · exact y23
                · exact ld_f rfl rfl rfl hd rfl
                (apply WD_gt; exact uk; apply WD_mv (hn := rfl); exact lk; apply WD_gt; exact uk)
                apply WD_ia (hn := rfl)
                exact lk
                exact lk
                · exact hr3
                (apply WD_gt; exact uk)
                apply WD_ld (hn := rfl)
                exact lk
                · exact y36
                · exact ld_v36
                (apply WD_gt; exact uk; apply WD_mv (hn := rfl); exact lk; apply WD_gt; exact uk; apply WD_mv (hn := rfl); exact lk; apply WD_gt; exact uk)
                apply WD_ia (hn := rfl)
                exact lk
                exact lk
                · exact hv1
                (apply WD_gt; exact uk)
                apply WD_ld (hn := rfl)
                exact lk
                · exact y36
                · exact ld_v36
                (apply WD_gt; exact uk)
                apply WD_pu (hn := rfl) (.bool true)
                · apply evs2
                  exact lk
                  exact lk
                · exact Ev_top rfl (flat1_33 (limR_lim _) (limR_lim _) la lb) hsame1 me
                · exact flat1_33 (limR_lim _) (limR_lim _) la lb
                (apply WD_gt; exact uk; apply WD_un (hn := rfl); exact lk; exact u_not)
                apply WD_pkF (hn := rfl)
                exact lk
                · exact rfl
                exact lk
                (apply WD_mv (hn := rfl); exact lk; apply WD_gt; exact uk)
                apply WD_ld (hn := rfl)
                exact lk
                · exact y36
                · exact ld3 ty36.symm hs
                (apply WD_gt; exact uk)
                apply WD_pu (hn := rfl)
                · apply evs1
                  exact rfl
                · exact Ev_top rfl rfl hq9' me
                · exact rfl
                (apply WD_gt; exact uk)
                apply WD_pu (hn := rfl) (.bool true)
                · apply evs2
                  exact lk
                  exact lk
                · exact Ev_top rfl (flat1_33 k1 k2 c1 c2) hsame2 me
                · exact flat1_33 k1 k2 c1 c2
                (apply WD_gt; exact uk; apply WD_un (hn := rfl); exact lk; exact u_not)
                apply WD_pkF (hn := rfl)
                exact lk
                · exact rfl
                exact lk
                refine WD_nil ⟨rfl, ?_⟩
                show WC _ _ _ _
                repeat first | refine WC_seq ?_ | refine WC_block ?_ | refine WC_region ?_
                apply WC_cond; (focus (apply condOf_t; (focus (first | (apply evo_t; (repeat (first | exact get_hit | assumption | refine get_miss rfl ?_ | fail)); done) | (exact rfl) | fail))))
                · intro hh
                  cases hh
                · intro _
                  refine WC_skip ?_
                  show WC _ _ _ _; repeat first | refine WC_seq ?_ | refine WC_block ?_ | refine WC_region ?_
                  (apply WO_mv (hn := rfl); exact lk; apply WO_bin (hn := rfl); exact lk; exact lk; exact bk; apply WO_as (hn := rfl); exact lk)
                  refine WO_nil ?_
                  exact ⟨j - 1, by omega, _, _, i + 1, w2t, w2y, w2fil, w2len, rfl, gk, gk, gk, gk, gk, gk, hm, hw2t, hw2y, by omega, by omega, by omega⟩
  · intro hge
    refine WC_exit ?_
    show WC _ _ _ _
    repeat first | refine WC_seq ?_ | refine WC_block ?_ | refine WC_region ?_
    apply WO_ca (hn := rfl) (.bool true) me
    · exact rfl
    · exact Ev_known me
    (apply WO_as (hn := rfl); exact lk)
    refine WO_nil ?_; show WC _ _ _ _; repeat first | refine WC_seq ?_ | refine WC_block ?_ | refine WC_region ?_
    refine WC_ret ?_
    exact ⟨rfl, rfl, gk⟩
end
end Go.Ab.T
/- The statement's own function: its first tests. -/
open Go Go.Ab
namespace Go.Ab.T
set_option maxRecDepth 10000
set_option maxHeartbeats 2000000
set_option linter.unusedSimpArgs false
attribute [local irreducible] Tr.get Tr.set

theorem top0 {n : Int} {pe pv : PV} : WC E (fstC body3) ⟨bindArgs 0 [.int .i64 n, pe, pv] .leaf, 175, .empty, []⟩ fun x s => x = .nrm ∧ s = ⟨(((Tr.leaf.set 0 (.int .i64 n)).set 1 pe).set 2 pv).set 6 (.bool false), 175, .empty, []⟩ := by
  show WC E _ ⟨((Tr.leaf.set 0 (.int .i64 n)).set 1 pe).set 2 pv, 175, .empty, []⟩ _
  repeat first | refine WC_seq ?_ | refine WC_block ?_ | refine WC_region ?_
  (apply WO_as (hn := rfl); exact lk)
  exact WO_nil ⟨rfl, rfl⟩

/-- behind the first tests: the end, or few fields and few edits -/
def PreQ (n : Int) (pe pv : PV) (zl rl : Nat) (x : Ex) (s : St) : Prop :=
  (x = .ret ∧ s.df = [] ∧ s.tm.get 6 = some (.bool true)) ∨
  (x = .nrm ∧ (2 ≤ n ∧ n ≤ 8 ∧ zl ≤ 12 ∧ zl ≤ rl) ∧ ∃ p6 p18 p19 p20 p21 p22 p23 p24 p25 p26 p27 p28 p29 p30 p31 p32 p33 p34 p35 : PV, s = ⟨tm35 n pe pv p6 p18 p19 p20 p21 p22 p23 p24 p25 p26 p27 p28 p29 p30 p31 p32 p33 p34 p35, 175, .empty, []⟩)

theorem top1 {n : Int} {zs : List Int} {rs : List (Bool × PV × PV)} {pe pv : PV} (he : Ed zs pe) (hv : Va rs pv) : WC E (fstC (drop3 1 body3)) ⟨(((Tr.leaf.set 0 (.int .i64 n)).set 1 pe).set 2 pv).set 6 (.bool false), 175, .empty, []⟩ (PreQ n pe pv zs.length rs.length) := by
  show WC E (.seq _ _) _ _
  have y22 : E.ty 22 = some ⟨.slice 3 1 8 (some [.int .i64 0]), 1, some [.nils]⟩ := rfl
  have y23 : E.ty 23 = some ⟨.slice 36 3 56 (some [.bool false, .nils, .nils]), 1, some [.nils]⟩ := rfl
  repeat first | refine WC_seq ?_ | refine WC_block ?_ | refine WC_region ?_
  apply WO_mv (hn := rfl)
  exact lk
  apply WO_bin (hn := rfl)
  exact lk
  · exact rfl
  · exact b_lss
  by_cases h1 : n < 2
  · rw [decide_eq_true h1]
    (apply WO_mv (hn := rfl); exact lk; apply WO_gf; exact uk; exact rfl; apply WO_gf; exact uk; exact rfl)
    apply WO_pkt (hn := rfl)
    exact lk
    · exact rfl
    · exact rfl
    (apply WO_mv (hn := rfl); exact lk; apply WO_gf; exact uk; exact rfl; apply WO_gf; exact uk; exact rfl; apply WO_gf; exact uk; exact rfl)
    apply WO_pkt (hn := rfl)
    exact lk
    · exact rfl
    · exact rfl
    (apply WO_mv (hn := rfl); exact lk; apply WO_gf; exact uk; exact rfl; apply WO_gf; exact uk; exact rfl; apply WO_gf; exact uk; exact rfl; apply WO_gf; exact uk; exact rfl; apply WO_gf; exact uk; exact rfl)
    apply WO_pkt (hn := rfl)
    exact lk
    · exact rfl
    · exact rfl
    refine WO_nil ?_; show WC _ _ _ _; repeat first | refine WC_seq ?_ | refine WC_block ?_ | refine WC_region ?_
    apply WC_cond; (focus (apply condOf_t; (focus (first | (apply evo_t; (repeat (first | exact get_hit | assumption | refine get_miss rfl ?_ | fail)); done) | (exact rfl) | fail))))
    · intro _
      show WC _ _ _ _; repeat first | refine WC_seq ?_ | refine WC_block ?_ | refine WC_region ?_
      (apply WO_as (hn := rfl); exact lk)
      refine WO_nil ?_; show WC _ _ _ _; repeat first | refine WC_seq ?_ | refine WC_block ?_ | refine WC_region ?_
      refine WC_ret ?_
      exact .inl ⟨rfl, rfl, gk⟩
    · intro hh
      cases hh
  · rw [decide_eq_false h1]
    (apply WO_mv (hn := rfl); exact lk; apply WO_gt; exact uk; apply WO_mv (hn := rfl); exact lk; apply WO_gt; exact uk; apply WO_bin (hn := rfl); exact lk; exact lk; exact bk)
    by_cases h2 : 8 < n
    · rw [decide_eq_true h2]
      apply WO_pkf (hn := rfl)
      exact lk
      · exact rfl
      exact lk
      (apply WO_mv (hn := rfl); exact lk; apply WO_gf; exact uk; exact rfl; apply WO_gf; exact uk; exact rfl; apply WO_gf; exact uk; exact rfl)
      apply WO_pkt (hn := rfl)
      exact lk
      · exact rfl
      · exact rfl
      (apply WO_mv (hn := rfl); exact lk; apply WO_gf; exact uk; exact rfl; apply WO_gf; exact uk; exact rfl; apply WO_gf; exact uk; exact rfl; apply WO_gf; exact uk; exact rfl; apply WO_gf; exact uk; exact rfl)
      apply WO_pkt (hn := rfl)
      exact lk
      · exact rfl
      · exact rfl
      refine WO_nil ?_; show WC _ _ _ _; repeat first | refine WC_seq ?_ | refine WC_block ?_ | refine WC_region ?_
      apply WC_cond; (focus (apply condOf_t; (focus (first | (apply evo_t; (repeat (first | exact get_hit | assumption | refine get_miss rfl ?_ | fail)); done) | (exact rfl) | fail))))
      · intro _
        show WC _ _ _ _; repeat first | refine WC_seq ?_ | refine WC_block ?_ | refine WC_region ?_
        (apply WO_as (hn := rfl); exact lk)
        refine WO_nil ?_; show WC _ _ _ _; repeat first | refine WC_seq ?_ | refine WC_block ?_ | refine WC_region ?_
        refine WC_ret ?_
        exact .inl ⟨rfl, rfl, gk⟩
      · intro hh
        cases hh
    · rw [decide_eq_false h2]
      apply WO_pkf (hn := rfl)
      exact lk
      · exact rfl
      exact lk
      (apply WO_mv (hn := rfl); exact lk; apply WO_gt; exact uk; apply WO_mv (hn := rfl); exact lk; apply WO_gt; exact uk)
      apply WO_b1 (hn := rfl) (hb := rfl)
      exact lk
      · exact len_ed y22 he
      (apply WO_gt; exact uk)
      apply WO_bin (hn := rfl)
      exact lk
      · exact rfl
      · exact b_gtr
      by_cases h3 : (12 : Int) < (zs.length : Int)
      · rw [decide_eq_true h3]
        apply WO_pkf (hn := rfl)
        exact lk
        · exact rfl
        exact lk
        (apply WO_mv (hn := rfl); exact lk; apply WO_gf; exact uk; exact rfl; apply WO_gf; exact uk; exact rfl; apply WO_gf; exact uk; exact rfl; apply WO_gf; exact uk; exact rfl; apply WO_gf; exact uk; exact rfl)
        apply WO_pkt (hn := rfl)
        exact lk
        · exact rfl
        · exact rfl
        refine WO_nil ?_; show WC _ _ _ _; repeat first | refine WC_seq ?_ | refine WC_block ?_ | refine WC_region ?_
        apply WC_cond; (focus (apply condOf_t; (focus (first | (apply evo_t; (repeat (first | exact get_hit | assumption | refine get_miss rfl ?_ | fail)); done) | (exact rfl) | fail))))
        · intro _
          show WC _ _ _ _; repeat first | refine WC_seq ?_ | refine WC_block ?_ | refine WC_region ?_
          (apply WO_as (hn := rfl); exact lk)
          refine WO_nil ?_; show WC _ _ _ _; repeat first | refine WC_seq ?_ | refine WC_block ?_ | refine WC_region ?_
          refine WC_ret ?_
          exact .inl ⟨rfl, rfl, gk⟩
        · intro hh
          cases hh
      · rw [decide_eq_false h3]
        apply WO_pkf (hn := rfl)
        exact lk
        · exact rfl
        exact lk
        (apply WO_mv (hn := rfl); exact lk; apply WO_gt; exact uk; apply WO_mv (hn := rfl); exact lk; apply WO_gt; exact uk)
        apply WO_b1 (hn := rfl) (hb := rfl)
        exact lk
        · exact len_va y23 hv
        (apply WO_gt; exact uk; apply WO_mv (hn := rfl); exact lk; apply WO_gt; exact uk)
        apply WO_b1 (hn := rfl) (hb := rfl)
        exact lk
        · exact len_ed y22 he
        (apply WO_gt; exact uk)
        apply WO_bin (hn := rfl)
        exact lk
        exact lk
        · exact b_lss
        by_cases h4 : (rs.length : Int) < (zs.length : Int)
        · rw [decide_eq_true h4]
          apply WO_pkf (hn := rfl)
          exact lk
          · exact rfl
          exact lk
          refine WO_nil ?_; show WC _ _ _ _; repeat first | refine WC_seq ?_ | refine WC_block ?_ | refine WC_region ?_
          apply WC_cond; (focus (apply condOf_t; (focus (first | (apply evo_t; (repeat (first | exact get_hit | assumption | refine get_miss rfl ?_ | fail)); done) | (exact rfl) | fail))))
          · intro _
            show WC _ _ _ _; repeat first | refine WC_seq ?_ | refine WC_block ?_ | refine WC_region ?_
            (apply WO_as (hn := rfl); exact lk)
            refine WO_nil ?_; show WC _ _ _ _; repeat first | refine WC_seq ?_ | refine WC_block ?_ | refine WC_region ?_
            refine WC_ret ?_
            exact .inl ⟨rfl, rfl, gk⟩
          · intro hh
            cases hh
        · rw [decide_eq_false h4]
          apply WO_pkf (hn := rfl)
          exact lk
          · exact rfl
          exact lk
          refine WO_nil ?_; show WC _ _ _ _; repeat first | refine WC_seq ?_ | refine WC_block ?_ | refine WC_region ?_
          apply WC_cond; (focus (apply condOf_t; (focus (first | (apply evo_t; (repeat (first | exact get_hit | assumption | refine get_miss rfl ?_ | fail)); done) | (exact rfl) | fail))))
          · intro hh
            cases hh
          · intro _
            refine WC_skip ?_
            exact .inr ⟨rfl, ⟨by omega, by omega, by omega, by omega⟩, _, _, _, _, _, _, _, _, _, _, _, _, _, _, _, _, _, _, _, rfl⟩
end Go.Ab.T
