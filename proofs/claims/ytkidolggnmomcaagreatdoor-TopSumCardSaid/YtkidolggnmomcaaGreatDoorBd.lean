/- The reference naturals answer right. -/
import Derived.Test.YtkidolggnmomcaaGreatDoorBc
set_option linter.unusedVariables false
set_option linter.unusedSimpArgs false
/- The document's answer, rows of limbs: ref1.Trim, Of, at, To, Cmp. -/
open Go Go.Ab
namespace Go.Ab.T
set_option maxRecDepth 10000
set_option maxHeartbeats 2000000
set_option linter.unusedSimpArgs false
attribute [local irreducible] Tr.get Tr.set

theorem app_clone {a : List Nat} {p : PV} (h : Lim a p) (hl : a.length < 1000000) (m : PM) : ∃ q m', mBuiltin E m .append (#[34, 34] : Array TypeId).toList (some [.vsl [] 0 (some 0), p]) = some (q, m') ∧ Rd a m' q := by
  rcases h with ⟨rfl, rfl⟩ | ⟨cp, rfl⟩
  · exact ⟨_, _, rfl, Lim.rd (.inr ⟨some 0, rfl⟩) m⟩
  · have e1 : Nat.beq (cu a).length (Nat.mul a.length 1) = true := by
      rw [cu_length, show Nat.mul a.length 1 = a.length from Nat.mul_one _]; exact Nat.beq_refl _
    have e3 : mBuiltin E m .append (#[34, 34] : Array TypeId).toList (some [.vsl [] 0 (some 0), .vsl (cu a) a.length cp]) = mAppend2 m 68 1 4 (.vsl [] 0 (some 0)) (cu a) a.length := by
      show (match (bif Nat.beq (cu a).length (Nat.mul a.length 1) then some (cu a, a.length) else none) with
        | some (cs, n) => bif cellsOk cs then mAppend2 m 68 1 4 (.vsl [] 0 (some 0)) cs n else none
        | none => none) = _
      rw [e1]
      simp only [cond_true, cellsOk_cu]
    rw [e3]
    by_cases h0 : a.length = 0
    · have : a = [] := List.length_eq_zero_iff.1 h0
      subst this
      exact ⟨_, _, rfl, Lim.rd (.inr ⟨some 0, rfl⟩) m⟩
    · have e4 : Nat.beq a.length 0 = false := by
        cases hb : Nat.beq a.length 0 with
        | false => rfl
        | true => exact absurd (beq_t hb) h0
      have e5 : Nat.ble (Nat.mul (Nat.add 0 a.length) 4) roomB = true := Nat.ble_eq_true_of_le (by
        show (0 + a.length) * 4 ≤ 140737488355328
        omega)
      refine ⟨.msl m.next 0 0 (0 + a.length) 1, m.new (.cells (cu a) 0 false 68), ?_, ?_⟩
      · show (bif Nat.beq a.length 0 then some (PV.vsl [] 0 (some 0), m) else (bif Nat.beq 0 0 && (Nat.beq 0 (Nat.mul 0 1) && Nat.ble (Nat.mul (Nat.add 0 a.length) 4) roomB) then some (PV.msl m.next 0 0 (Nat.add 0 a.length) 1, m.new (.cells ([] ++ cu a) 0 false 68)) else none)) = _
        rw [e4, e5]
        rfl
      · intro d
        have hb : (m.new (.cells (cu a) 0 false 68)).get m.next = some (.cells (cu a) 0 false 68) := by rw [PM.get_new, if_pos rfl]
        refine ⟨_, _, reify_msl hb (by omega), .inr ⟨none, ?_⟩⟩
        rw [Nat.zero_add, List.drop_zero, List.take_length]

theorem r1_Trim {a : List Nat} {p : PV} (h : Lim a p) (ho : Ok a) (hl : a.length < 900000) : ∃ q, Lim (lm (nv a)) q ∧ ∀ m, Ev E 24 [p] m q m := by
  refine Ev_isoE rfl rfl rfl (flats1 h.flat) (fn := Go.Proofs.Tryz.f24) rfl rfl rfl ?_
  show WC E _ ⟨Tr.leaf.set 0 p, 23, _, _⟩ _
  repeat first | refine WC_seq ?_ | refine WC_block ?_ | refine WC_region ?_
  (apply WO_as (hn := rfl); exact lk)
  refine WO_nil ?_; show WC E _ _ _; repeat first | refine WC_seq ?_ | refine WC_block ?_ | refine WC_region ?_
  (apply WO_mv (hn := rfl); exact lk; apply WO_b1 (hn := rfl) (hb := rfl); exact lk; exact nk; apply WO_as (hn := rfl); exact lk)
  refine WO_nil ?_; show WC E _ _ _; repeat first | refine WC_seq ?_ | refine WC_block ?_ | refine WC_region ?_
  refine WC_loop (fun j s => ∃ tm, s = ⟨tm, 23, .empty, []⟩ ∧ tm.get 0 = some p ∧ tm.get 3 = some (.int .i64 (j : Int)) ∧ j ≤ a.length ∧ nv (a.take j) = nv a) a.length ⟨_, rfl, gk, gk, Nat.le_refl _, by rw [List.take_length]⟩ ?_
  rintro j s ⟨tm, rfl, g0, g3, hj, hv⟩
  -- the end
  have fin : Trm (a.take j) = true → ∀ {tm : Tr PV}, tm.get 0 = some p → tm.get 3 = some (.int .i64 (j : Int)) → ∃ q r m', pSlice (E.ty 34) (some p) (some none) (some (some (.int .i64 (j : Int)))) (some none) = some q ∧ mBuiltin E PM.empty .append (#[34, 34] : Array TypeId).toList (some [.vsl [] 0 (some 0), q]) = some (r, m') ∧ ∃ w m2, reify 12 m' r = some (w, m2) ∧ Lim (lm (nv a)) w := by
    intro hT tm _ _
    obtain ⟨q, hq1, hq2⟩ := sl_lim ty34 h hj (kd := .i64)
    obtain ⟨r, m', hr1, hr2⟩ := app_clone hq2 (by rw [List.length_take]; omega) PM.empty
    obtain ⟨w, m2, h3, h4⟩ := hr2 11
    refine ⟨q, r, m', hq1, hr1, w, m2, h3, ?_⟩
    have : lm (nv a) = a.take j := by rw [← hv]; exact lm_nv (ho.take j) hT
    rw [this]; exact h4
  refine WC_seq ?_
  refine WC.mono (Q := fun xx s' => (xx = .exit 0 ∧ Trm (a.take j) = true ∧ ∃ tm, s' = ⟨tm, 23, .empty, []⟩ ∧ tm.get 0 = some p ∧ tm.get 3 = some (.int .i64 (j : Int))) ∨ (xx = .nrm ∧ j ≠ 0 ∧ nv (a.take (j - 1)) = nv a ∧ ∃ tm, s' = ⟨tm, 23, .empty, []⟩ ∧ tm.get 0 = some p ∧ tm.get 3 = some (.int .i64 (j : Int)))) ?_ ?_
  · repeat first | refine WC_seq ?_ | refine WC_block ?_ | refine WC_region ?_
    by_cases hj0 : j = 0
    · (apply WO_mv (hn := rfl); exact lk; apply WO_bin (hn := rfl); exact lk; exact lk; exact bk; apply WO_mv (hn := rfl); exact lk; apply WO_gf; exact uk; exact rfl; apply WO_gf; exact uk; exact rfl; apply WO_gf; exact uk; exact rfl; apply WO_gf; exact uk; exact rfl; apply WO_gf; exact uk; exact rfl; apply WO_gf; exact uk; exact rfl)
      apply WO_pkf (hn := rfl)
      exact lk
      · exact decide_eq_false (by omega)
      · exact rfl
      refine WO_nil ?_
      show WC E _ _ _
      apply WC_false
      · apply condOf_t
        exact lk
      exact WC_exit (.inl ⟨rfl, by subst hj0; rfl, _, rfl, gk, gk⟩)
    · obtain ⟨x, hx⟩ : ∃ x, a[j - 1]? = some x := ⟨_, List.getElem?_eq_getElem (by omega)⟩
      have e2 : a.take j = a.take (j - 1) ++ [x] := by
        have := List.take_add_one (l := a) (i := j - 1)
        rw [show j - 1 + 1 = j by omega, hx] at this
        exact this
      (apply WO_mv (hn := rfl); exact lk; apply WO_bin (hn := rfl); exact lk; exact lk; exact bk; apply WO_mv (hn := rfl); exact lk; apply WO_gt; exact uk; apply WO_mv (hn := rfl); exact lk; apply WO_gt; exact uk; apply WO_mv (hn := rfl); exact lk; apply WO_gt; exact uk; apply WO_bin (hn := rfl); exact lk; exact lk; exact bk; apply WO_gt; exact uk)
      apply WO_ia (hn := rfl)
      exact lk
      exact lk
      · rw [show (j : Int) - 1 = ((j - 1 : Nat) : Int) by omega]
        exact ia_lim ty34 h (by omega)
      (apply WO_gt; exact uk)
      apply WO_ld (hn := rfl)
      exact lk
      · exact ld_lim ty68 hx
      (apply WO_gt; exact uk; apply WO_bin (hn := rfl); exact lk; exact lk; exact bk)
      apply WO_pkt (hn := rfl)
      exact lk
      · exact decide_eq_true (by omega)
      exact lk
      refine WO_nil ?_
      show WC E _ _ _
      apply WC_cond; (focus (apply condOf_t; (focus (first | (apply evo_t; (repeat (first | exact get_hit | assumption | refine get_miss rfl ?_ | fail)); done) | (exact rfl) | fail))))
      · intro hc
        have hx0 : x = 0 := by have := of_decide_eq_true hc; omega
        refine WC_skip (.inr ⟨rfl, hj0, ?_, _, rfl, gk, gk⟩)
        rw [← hv, e2, hx0, nv_snoc0]
      · intro hc
        have hx0 : x ≠ 0 := by have := of_decide_eq_false hc; omega
        refine WC_exit (.inl ⟨rfl, ?_, _, rfl, gk, gk⟩)
        rw [e2, trm_snoc]
        cases hb : Nat.beq x 0 with
        | true => exact absurd (beq_t hb) hx0
        | false => rfl
  · clear g0 g3
    rintro xx s' (⟨rfl, hT, tm, rfl, g0, g3⟩ | ⟨rfl, hj0, hv2, tm, rfl, g0, g3⟩)
    · obtain ⟨q, r, m', hq, hr, w, m2, h3, h4⟩ := fin hT g0 g3
      show WC E _ _ _; repeat first | refine WC_seq ?_ | refine WC_block ?_ | refine WC_region ?_
      apply WO_bs (hn := rfl)
      · exact rfl
      · exact rfl
      (apply WO_mv (hn := rfl); exact lk; apply WO_mv (hn := rfl); exact lk)
      apply WO_sl (hn := rfl)
      exact lk
      · exact rfl
      · exact evopt_s lk
      · exact rfl
      · exact hq
      apply WO_m2 (hn := rfl) (hb := rfl)
      exact lk
      exact lk
      · exact hr
      (apply WO_as (hn := rfl); exact lk)
      refine WO_nil ?_
      show WC E _ _ _
      refine WC_ret ?_
      show BodyQ _ _ _ _ _
      exact fin1 rfl ex_ret rfl get_hit ⟨w, m2, h3, h4⟩
    · show WC E _ _ _; repeat first | refine WC_seq ?_ | refine WC_block ?_ | refine WC_region ?_
      (apply WO_mv (hn := rfl); exact lk; apply WO_bin (hn := rfl); exact lk; exact lk; exact bk; apply WO_as (hn := rfl); exact lk)
      refine WO_nil ?_
      refine ⟨j - 1, by omega, _, rfl, gk, ?_, by omega, hv2⟩
      rw [get_hit, show (j : Int) - 1 = ((j - 1 : Nat) : Int) by omega]

theorem r1_Of {n : Nat} (hn : n < 18446744073709551616) : ∃ q, Lim (lm n) q ∧ ∀ m, Ev E 13 [.int .u64 (n : Int)] m q m := by
  refine Ev_isoE rfl rfl rfl rfl (fn := Go.Proofs.Tryz.f13) rfl rfl rfl ?_
  show WC E _ ⟨Tr.leaf.set 0 _, 10, _, _⟩ _
  have hL : Lim [n % 4294967296, n / 2 ^ 32 % 4294967296] (.vsl [.int .u32 ((n % 4294967296 : Nat) : Int), .int .u32 ((n / 2 ^ 32 % 4294967296 : Nat) : Int)] 2 (some 2)) := .inr ⟨some 2, rfl⟩
  have ho : Ok [n % 4294967296, n / 2 ^ 32 % 4294967296] := .cons (Nat.mod_lt _ BB_pos) (.cons (Nat.mod_lt _ BB_pos) .nil)
  obtain ⟨q, hq, hq2⟩ := r1_Trim hL ho (by simp)
  have hv : nv [n % 4294967296, n / 2 ^ 32 % 4294967296] = n := by
    simp only [nv, BB]
    omega
  rw [hv] at hq
  repeat first | refine WC_seq ?_ | refine WC_block ?_ | refine WC_region ?_
  (apply WO_as (hn := rfl); exact lk)
  refine WO_nil ?_; show WC E _ _ _; repeat first | refine WC_seq ?_ | refine WC_block ?_ | refine WC_region ?_
  (apply WO_mv (hn := rfl); exact lk; apply WO_cv (hn := rfl); exact lk; exact rfl; exact rfl; exact ck; apply WO_mv (hn := rfl); exact lk; apply WO_bin (hn := rfl); exact lk; exact lk; exact bk; apply WO_cv (hn := rfl); exact lk; exact rfl; exact rfl; exact ck)
  apply WO_bs (hn := rfl)
  · apply evps2
    exact lk
    exact lk
  · exact rfl
  apply WO_ca (hn := rfl) q PM.empty
  · exact evs1 lk
  · exact hq2 _
  (apply WO_as (hn := rfl); exact lk)
  refine WO_nil ?_
  show WC E _ _ _
  refine WC_ret (fin1 rfl ex_ret rfl get_hit ?_)
  obtain ⟨q3, m3, h3, h4⟩ := Lim.rd hq PM.empty 11
  exact ⟨q3, m3, h3, h4⟩

theorem r1_at {a : List Nat} {p : PV} (h : Lim a p) (ho : Ok a) (hl : a.length < 900000) {i : Nat} (m : PM) : Ev E 49 [p, .int .i64 (i : Int)] m (.int .u64 ((a[i]?.getD 0 : Nat) : Int)) m := by
  refine Ev_iso rfl rfl rfl (flats2 h.flat rfl) (fn := Go.Proofs.Tryz.f49) rfl rfl rfl ?_ m
  show WC E _ ⟨(Tr.leaf.set 0 p).set 1 _, 14, _, _⟩ _
  repeat first | refine WC_seq ?_ | refine WC_block ?_ | refine WC_region ?_
  (apply WO_as (hn := rfl); exact lk)
  refine WO_nil ?_; show WC E _ _ _; repeat first | refine WC_seq ?_ | refine WC_block ?_ | refine WC_region ?_
  (apply WO_mv (hn := rfl); exact lk; apply WO_mv (hn := rfl); exact lk; apply WO_b1 (hn := rfl) (hb := rfl); exact lk; exact nk; apply WO_bin (hn := rfl); exact lk; exact lk; exact bk)
  refine WO_nil ?_; show WC E _ _ _; repeat first | refine WC_seq ?_ | refine WC_block ?_ | refine WC_region ?_
  apply WC_cond; (focus (apply condOf_t; (focus (first | (apply evo_t; (repeat (first | exact get_hit | assumption | refine get_miss rfl ?_ | fail)); done) | (exact rfl) | fail))))
  · intro hc
    have hc : i < a.length := by have := of_decide_eq_true hc; omega
    obtain ⟨x, hx⟩ : ∃ x, a[i]? = some x := ⟨_, List.getElem?_eq_getElem hc⟩
    have hx2 : x < 4294967296 := ho.get hx
    repeat first | refine WC_seq ?_ | refine WC_block ?_ | refine WC_region ?_
    (apply WO_mv (hn := rfl); exact lk; apply WO_mv (hn := rfl); exact lk)
    apply WO_ia (hn := rfl)
    exact lk
    exact lk
    · exact ia_lim ty34 h hc
    apply WO_ld (hn := rfl)
    exact lk
    · exact ld_lim ty68 hx
    (apply WO_cv (hn := rfl); exact lk; exact rfl; exact rfl; exact ck; apply WO_as (hn := rfl); exact lk)
    refine WO_nil ?_
    show WC E _ _ _
    refine WC_ret ?_
    show BodyQ _ _ _ _ _
    exact fin1 rfl ex_ret rfl get_hit ⟨PM.empty, by rw [hx]; rfl⟩
  · intro hc
    have hc : ¬ i < a.length := by have := of_decide_eq_false hc; omega
    refine WC_skip ?_
    show WC E _ _ _; repeat first | refine WC_seq ?_ | refine WC_block ?_ | refine WC_region ?_
    (apply WO_as (hn := rfl); exact lk)
    refine WO_nil ?_
    show WC E _ _ _
    refine WC_ret ?_
    show BodyQ _ _ _ _ _
    exact fin1 rfl ex_ret rfl get_hit ⟨PM.empty, by rw [List.getElem?_eq_none (by omega)]; rfl⟩
end Go.Ab.T
/- The document's answer: ref1.To, Add, Sub's rows that grow. -/
open Go Go.Ab
namespace Go.Ab.T
set_option maxRecDepth 10000
set_option maxHeartbeats 2000000
set_option linter.unusedSimpArgs false
attribute [local irreducible] Tr.get Tr.set

/-- a row that grows at its end -/
def App (c : List Nat) (m : PM) (v : PV) : Prop := (c = [] ∧ v = .nils) ∨ ∃ b g, v = .msl b g 0 c.length 1 ∧ m.get b = some (.cells (cu c) g false 68)
theorem cu_append {a b : List Nat} : cu (a ++ b) = cu a ++ cu b := by simp [cu]
theorem app_one {c : List Nat} {m : PM} {v : PV} (h : App c m v) (hl : c.length < 1000000) {x : Nat} {cp : Option Nat} : ∃ w m', mBuiltin E m .append (#[34, 34] : Array TypeId).toList (some [v, .vsl [.int .u32 (x : Int)] 1 cp]) = some (w, m') ∧ App (c ++ [x]) m' w := by
  have e3 : mBuiltin E m .append (#[34, 34] : Array TypeId).toList (some [v, .vsl [.int .u32 (x : Int)] 1 cp]) = mAppend2 m 68 1 4 v [.int .u32 (x : Int)] 1 := rfl
  rw [e3]
  rcases h with ⟨rfl, rfl⟩ | ⟨b, g, rfl, hb⟩
  · refine ⟨.msl m.next 0 0 1 1, m.new (.cells [.int .u32 (x : Int)] 0 false 68), rfl, .inr ⟨_, _, rfl, ?_⟩⟩
    rw [PM.get_new, if_pos rfl]; rfl
  · have e1 : Nat.beq g g = true := Nat.beq_refl g
    have e2 : Nat.ble (Nat.mul (Nat.add c.length 1) 4) roomB = true := Nat.ble_eq_true_of_le (by
      show (c.length + 1) * 4 ≤ 140737488355328
      omega)
    have e4 : cutN (cu c) 0 (Nat.mul c.length 1) = some (cu c) := by
      unfold cutN
      have e : Nat.ble (Nat.add 0 (Nat.mul c.length 1)) (cu c).length = true := Nat.ble_eq_true_of_le (by show 0 + c.length * 1 ≤ _; rw [cu_length]; omega)
      rw [e, show Nat.mul c.length 1 = c.length from Nat.mul_one _]
      simp only [cond_true, List.drop_zero]
      rw [List.take_of_length_le (by rw [cu_length]; omega)]
    refine ⟨.msl b (Nat.succ g) 0 (c.length + 1) 1, m.upd b (.cells (cu c ++ [.int .u32 (x : Int)]) (Nat.succ g) false 68), ?_, .inr ⟨b, Nat.succ g, ?_, ?_⟩⟩
    · show (match m.get b with
        | some (.cells old g' false et') => bif Nat.beq 68 et' && Nat.beq g g' && (Nat.beq 0 0 && (Nat.beq 1 1 && Nat.ble (Nat.mul (Nat.add c.length 1) 4) roomB)) then (match cutN old 0 (Nat.mul c.length 1) with
          | some l => some (PV.msl b (Nat.succ g) 0 (Nat.add c.length 1) 1, m.upd b (.cells (l ++ [PV.int .u32 (x : Int)]) (Nat.succ g) false 68))
          | none => none) else none
        | _ => none) = _
      rw [hb]
      simp only
      rw [e1, e2, e4]
      rfl
    · rw [List.length_append]; rfl
    · rw [PM.get_upd, if_pos rfl, cu_append]; rfl
theorem App.len {c : List Nat} {m : PM} {v : PV} (h : App c m v) : v = .nils ∨ ∃ b g, v = .msl b g 0 c.length 1 := by
  rcases h with ⟨_, h⟩ | ⟨b, g, h, _⟩
  · exact .inl h
  · exact .inr ⟨b, g, h⟩
/-- a call with a row that has grown -/
theorem ev_app {f : Nat} {c : List Nat} {m : PM} {v r : PV} (hext : E.ext f = none) (hs : E.same f = false) (hi : E.iso f = true) (h : App c m v) (hr : ∀ p, Lim c p → ∀ m, Ev E f [p] m r m) : ∃ m', Ev E f [v] m r m' := by
  rcases h with ⟨rfl, rfl⟩ | ⟨b, g, rfl, hb⟩
  · exact ⟨m, hr .nils (.inl ⟨rfl, rfl⟩) m⟩
  · exact ev_msl hext hs hi hb rfl rfl (hr _ (.inr ⟨none, rfl⟩) m)

theorem r1_To {a : List Nat} {p : PV} (h : Lim a p) (ho : Ok a) (hl : a.length < 900000) (m : PM) : Ev E 62 [p] m (if (lm (nv a)).length ≤ 2 then .tup [.int .u64 (nv a : Int), .bool true] else .tup [.int .u64 0, .bool false]) m := by
  obtain ⟨pA, hA, hp2⟩ := r1_Trim h ho hl
  have hla : (lm (nv a)).length < 900000 := Nat.lt_of_le_of_lt (lm_le ho) hl
  generalize hx : nv a = x at *
  have hoA := ok_lm x
  have hxA := nv_lm x
  suffices hh : ∃ q, q = (if (lm x).length ≤ 2 then PV.tup [.int .u64 (x : Int), .bool true] else .tup [.int .u64 0, .bool false]) ∧ ∀ m, Ev E 62 [p] m q m by
    obtain ⟨q, rfl, hh⟩ := hh
    exact hh m
  refine Ev_isoE rfl rfl rfl (flats1 h.flat) (fn := Go.Proofs.Tryz.f62) rfl rfl rfl ?_
  show WC E _ ⟨Tr.leaf.set 0 p, 28, _, _⟩ _
  repeat first | refine WC_seq ?_ | refine WC_block ?_ | refine WC_region ?_
  (apply WO_as (hn := rfl); exact lk; apply WO_as (hn := rfl); exact lk)
  refine WO_nil ?_; show WC E _ _ _; repeat first | refine WC_seq ?_ | refine WC_block ?_ | refine WC_region ?_
  (apply WO_mv (hn := rfl); exact lk)
  apply WO_ca (hn := rfl) pA PM.empty
  · exact evs1 lk
  · exact hp2 _
  (apply WO_as (hn := rfl); exact lk)
  refine WO_nil ?_; show WC E _ _ _; repeat first | refine WC_seq ?_ | refine WC_block ?_ | refine WC_region ?_
  (apply WO_mv (hn := rfl); exact lk; apply WO_b1 (hn := rfl) (hb := rfl); exact lk; exact nk; apply WO_bin (hn := rfl); exact lk; exact lk; exact bk)
  refine WO_nil ?_; show WC E _ _ _; repeat first | refine WC_seq ?_ | refine WC_block ?_ | refine WC_region ?_
  apply WC_cond; (focus (apply condOf_t; (focus (first | (apply evo_t; (repeat (first | exact get_hit | assumption | refine get_miss rfl ?_ | fail)); done) | (exact rfl) | fail))))
  · intro hc
    have hc : ¬ (lm x).length ≤ 2 := by have := of_decide_eq_true hc; omega
    repeat first | refine WC_seq ?_ | refine WC_block ?_ | refine WC_region ?_
    (apply WO_as (hn := rfl); exact lk; apply WO_as (hn := rfl); exact lk)
    refine WO_nil ?_
    show WC E _ _ _
    refine WC_ret ?_
    show BodyQ _ _ _ _ _
    refine fin2 rfl ex_ret rfl gk gk ?_
    exact ⟨_, PM.empty, reify_t2 rfl rfl, by rw [if_neg hc]⟩
  · intro hc
    have hc : (lm x).length ≤ 2 := by have := of_decide_eq_false hc; omega
    refine WC_skip ?_
    show WC E _ _ _; repeat first | refine WC_seq ?_ | refine WC_block ?_ | refine WC_region ?_
    (apply WO_as (hn := rfl); exact lk)
    refine WO_nil ?_; show WC E _ _ _; repeat first | refine WC_seq ?_ | refine WC_block ?_ | refine WC_region ?_
    (apply WO_mv (hn := rfl); exact lk; apply WO_b1 (hn := rfl) (hb := rfl); exact lk; exact nk; apply WO_bin (hn := rfl); exact lk; exact lk; exact bk; apply WO_as (hn := rfl); exact lk)
    refine WO_nil ?_; show WC E _ _ _; repeat first | refine WC_seq ?_ | refine WC_block ?_ | refine WC_region ?_
    refine WC_loop (fun j s => ∃ (tm : Tr PV), s = ⟨tm, 28, .empty, []⟩ ∧ tm.get 4 = some pA ∧ tm.get 6 = some (.int .i64 ((j : Int) - 1)) ∧ tm.get 5 = some (.int .u64 (nv ((lm x).drop j) : Int)) ∧ j ≤ (lm x).length) (lm x).length ⟨_, rfl, gk, gk, by rw [List.drop_length]; exact (show _ = some (PV.int .u64 0) from gk), Nat.le_refl _⟩ ?_
    rintro j s ⟨tm, rfl, g4, g6, g5, hj⟩
    repeat first | refine WC_seq ?_ | refine WC_block ?_ | refine WC_region ?_
    (apply WO_mv (hn := rfl); exact lk; apply WO_bin (hn := rfl); exact lk; exact lk; exact bk)
    refine WO_nil ?_; show WC E _ _ _; repeat first | refine WC_seq ?_ | refine WC_block ?_ | refine WC_region ?_
    apply WC_cond; (focus (apply condOf_t; (focus (first | (apply evo_t; (repeat (first | exact get_hit | assumption | refine get_miss rfl ?_ | fail)); done) | (exact rfl) | fail))))
    · intro hj0
      have hj0 : j ≠ 0 := by have := of_decide_eq_true hj0; omega
      have hjj : (j : Int) - 1 = ((j - 1 : Nat) : Int) := by omega
      rw [hjj] at g6 ⊢
      obtain ⟨y, hy, hy2⟩ := lm_get (n := x) (i := j - 1) (by omega)
      have hd := nv_drop hy
      rw [show j - 1 + 1 = j by omega] at hd
      have hlt : nv ((lm x).drop j) < 4294967296 := by
        have h1 := nv_lt (hoA.drop j)
        rw [List.length_drop] at h1
        have h2 : BB ^ ((lm x).length - j) ≤ BB ^ 1 := Nat.pow_le_pow_right BB_pos (by omega)
        rw [Nat.pow_one] at h2
        have h3 := BB_eq
        omega
      generalize nv ((lm x).drop j) = n at *
      refine WC_skip ?_
      show WC E _ _ _; repeat first | refine WC_seq ?_ | refine WC_block ?_ | refine WC_region ?_
      (apply WO_mv (hn := rfl); exact lk; apply WO_bin (hn := rfl); exact lk; exact lk; exact bk; apply WO_mv (hn := rfl); exact lk; apply WO_mv (hn := rfl); exact lk)
      apply WO_ia (hn := rfl)
      exact lk
      exact lk
      · exact ia_lim ty34 hA (by omega)
      apply WO_ld (hn := rfl)
      exact lk
      · exact ld_lim ty68 hy
      have hy3 : y < 4294967296 := hy2
      (apply WO_cv (hn := rfl); exact lk; exact rfl; exact rfl; exact ck)
      apply WO_bin (hn := rfl)
      exact lk
      exact lk
      · have e := b_orU (K := E.ty 65) (cst := false) (a := n * 2 ^ 32) (b := y) (by omega) (by omega)
        rw [or_hi hy3] at e
        rw [show n * 2 ^ 32 % 18446744073709551616 = n * 2 ^ 32 from Nat.mod_eq_of_lt (by omega)]
        exact e
      (apply WO_as (hn := rfl); exact lk)
      refine WO_nil ?_; show WC E _ _ _; repeat first | refine WC_seq ?_ | refine WC_block ?_ | refine WC_region ?_
      (apply WO_mv (hn := rfl); exact lk; apply WO_bin (hn := rfl); exact lk; exact lk; exact bk; apply WO_as (hn := rfl); exact lk)
      refine WO_nil ?_
      refine ⟨j - 1, by omega, _, rfl, gk, gk, ?_, by omega⟩
      rw [hd, BB_eq, show y + 4294967296 * n = n * 4294967296 + y by omega]
      (repeat (first | exact get_hit | assumption | refine get_miss rfl ?_ | fail))
    · intro hj0
      have hj0 : j = 0 := by have := of_decide_eq_false hj0; omega
      subst hj0
      rw [List.drop_zero, hxA] at g5
      refine WC_exit ?_
      show WC E _ _ _; repeat first | refine WC_seq ?_ | refine WC_block ?_ | refine WC_region ?_
      (apply WO_mv (hn := rfl); exact lk; apply WO_as (hn := rfl); exact lk; apply WO_as (hn := rfl); exact lk)
      refine WO_nil ?_
      show WC E _ _ _
      refine WC_ret ?_
      show BodyQ _ _ _ _ _
      refine fin2 rfl ex_ret rfl gk gk ?_
      exact ⟨_, PM.empty, reify_t2 rfl rfl, by rw [if_pos hc]⟩

theorem max_N {ts : List Nat} {a b : Nat} : pBuiltin E .max ts (some [.int .i64 (a : Int), .int .i64 (b : Int)]) = some (.int .i64 ((max a b : Nat) : Int)) := by
  show foldI false (.int .i64 (a : Int)) [.int .i64 (b : Int)] = _
  simp only [foldI, cond_false, intLt_d]
  by_cases h : (a : Int) < (b : Int)
  · rw [decide_eq_true h, cond_true, Nat.max_eq_right (by omega)]
  · rw [decide_eq_false h, cond_false, Nat.max_eq_left (by omega)]

theorem r1_Add {a b : List Nat} {p q : PV} (h : Lim a p) (h' : Lim b q) (ho : Ok a) (ho' : Ok b) (hl : a.length < 800000) (hl' : b.length < 800000) : ∃ r, Lim (lm (nv a + nv b)) r ∧ ∀ m, Ev E 21 [p, q] m r m := by
  refine Ev_isoE rfl rfl rfl (flats2 h.flat h'.flat) (fn := Go.Proofs.Tryz.f21) rfl rfl rfl ?_
  show WC E _ ⟨(Tr.leaf.set 0 p).set 1 q, 36, _, _⟩ _
  have hK : max a.length b.length < 800000 := Nat.max_lt.2 ⟨hl, hl'⟩
  have hKa : a.length ≤ max a.length b.length := Nat.le_max_left _ _
  have hKb : b.length ≤ max a.length b.length := Nat.le_max_right _ _
  have hmax := max_N (ts := [3, 3]) (a := a.length) (b := b.length)
  generalize max a.length b.length = K at *
  repeat first | refine WC_seq ?_ | refine WC_block ?_ | refine WC_region ?_
  (apply WO_as (hn := rfl); exact lk)
  refine WO_nil ?_; show WC E _ _ _; repeat first | refine WC_seq ?_ | refine WC_block ?_ | refine WC_region ?_
  (apply WO_as (hn := rfl); exact lk)
  refine WO_nil ?_; show WC E _ _ _; repeat first | refine WC_seq ?_ | refine WC_block ?_ | refine WC_region ?_
  (apply WO_as (hn := rfl); exact lk)
  refine WO_nil ?_; show WC E _ _ _; repeat first | refine WC_seq ?_ | refine WC_block ?_ | refine WC_region ?_
  (apply WO_as (hn := rfl); exact lk)
  refine WO_nil ?_; show WC E _ _ _; repeat first | refine WC_seq ?_ | refine WC_block ?_ | refine WC_region ?_
  refine WC_loop (fun j s => ∃ (tm : Tr PV) (me : PM) (i cr : Nat) (c : List Nat) (v : PV), s = ⟨tm, 36, me, []⟩ ∧ tm.get 0 = some p ∧ tm.get 1 = some q ∧ tm.get 7 = some (.int .i64 (i : Int)) ∧ tm.get 6 = some (.int .u64 (cr : Int)) ∧ tm.get 5 = some v ∧ App c me v ∧ c.length = i ∧ Ok c ∧ i ≤ K + 1 ∧ j = K + 1 - i ∧ cr ≤ 1 ∧ nv c + BB ^ i * cr = nv (a.take i) + nv (b.take i)) (K + 1)
    ⟨_, _, 0, 0, [], .nils, rfl, gk, gk, gk, gk, gk, .inl ⟨rfl, rfl⟩, rfl, .nil, by omega, by omega, by omega, by simp [nv]⟩ ?_
  rintro j s ⟨tm, me, i, cr, c, v, rfl, g0, g1, g7, g6, g5, hA, hc, hoc, hi, hj, hcr, hv⟩
  repeat first | refine WC_seq ?_ | refine WC_block ?_ | refine WC_region ?_
  (apply WO_mv (hn := rfl); exact lk; apply WO_mv (hn := rfl); exact lk; apply WO_b1 (hn := rfl) (hb := rfl); exact lk; exact nk; apply WO_mv (hn := rfl); exact lk; apply WO_b1 (hn := rfl) (hb := rfl); exact lk; exact nk)
  apply WO_b2 (hn := rfl) (hb := rfl)
  exact lk
  exact lk
  · exact hmax
  (apply WO_bin (hn := rfl); exact lk; exact lk; exact bk; apply WO_bin (hn := rfl); exact lk; exact lk; exact bk)
  refine WO_nil ?_; show WC E _ _ _; repeat first | refine WC_seq ?_ | refine WC_block ?_ | refine WC_region ?_
  apply WC_cond; (focus (apply condOf_t; (focus (first | (apply evo_t; (repeat (first | exact get_hit | assumption | refine get_miss rfl ?_ | fail)); done) | (exact rfl) | fail))))
  · intro hlt
    have hlt : i < K + 1 := by have := of_decide_eq_true hlt; omega
    have ha2 : a[i]?.getD 0 < 4294967296 := by
      cases hw : a[i]? with
      | none => decide
      | some w => exact ho.get hw
    have hb2 : b[i]?.getD 0 < 4294967296 := by
      cases hw : b[i]? with
      | none => decide
      | some w => exact ho'.get hw
    have e1 := nv_take_getD a i
    have e2 := nv_take_getD b i
    have at1 := r1_at (i := i) h ho (by omega)
    have at2 := r1_at (i := i) h' ho' (by omega)
    generalize a[i]?.getD 0 = x at *
    generalize b[i]?.getD 0 = y at *
    refine WC_skip ?_
    show WC E _ _ _; repeat first | refine WC_seq ?_ | refine WC_block ?_ | refine WC_region ?_
    (apply WO_mv (hn := rfl); exact lk; apply WO_mv (hn := rfl); exact lk; apply WO_mv (hn := rfl); exact lk)
    apply WO_ca (hn := rfl) (.int .u64 (x : Int)) me
    · apply evs2
      exact lk
      exact lk
    · exact at1 me
    (apply WO_bin (hn := rfl); exact lk; exact lk; exact bk; apply WO_mv (hn := rfl); exact lk; apply WO_mv (hn := rfl); exact lk)
    apply WO_ca (hn := rfl) (.int .u64 (y : Int)) me
    · apply evs2
      exact lk
      exact lk
    · exact at2 me
    (apply WO_bin (hn := rfl); exact lk; exact lk; exact bk; apply WO_as (hn := rfl); exact lk)
    refine WO_nil ?_; show WC E _ _ _; repeat first | refine WC_seq ?_ | refine WC_block ?_ | refine WC_region ?_
    (apply WO_mv (hn := rfl); exact lk; apply WO_mv (hn := rfl); exact lk; apply WO_cv (hn := rfl); exact lk; exact rfl; exact rfl; exact ck)
    apply WO_bs (hn := rfl)
    · apply evps1
      exact lk
    · exact rfl
    obtain ⟨w, m', k1, k2⟩ := app_one hA (by omega) (x := (cr + x + y) % 4294967296) (cp := some 1)
    apply WO_m2 (hn := rfl) (hb := rfl)
    exact lk
    exact lk
    · exact k1
    (apply WO_as (hn := rfl); exact lk)
    refine WO_nil ?_; show WC E _ _ _; repeat first | refine WC_seq ?_ | refine WC_block ?_ | refine WC_region ?_
    (apply WO_mv (hn := rfl); exact lk; apply WO_bin (hn := rfl); exact lk; exact lk; exact bk; apply WO_as (hn := rfl); exact lk)
    refine WO_nil ?_; show WC E _ _ _; repeat first | refine WC_seq ?_ | refine WC_block ?_ | refine WC_region ?_
    (apply WO_mv (hn := rfl); exact lk; apply WO_bin (hn := rfl); exact lk; exact lk; exact bk; apply WO_as (hn := rfl); exact lk)
    refine WO_nil ?_
    refine ⟨j - 1, by omega, _, _, i + 1, (cr + x + y) / 2 ^ 32, _, w, rfl, gk, gk, gk, gk, gk, k2, by rw [List.length_append, hc]; rfl, hoc.append (.cons (Nat.mod_lt _ BB_pos) .nil), by omega, by omega, by omega, ?_⟩
    rw [nv_snoc, hc, e1, e2]
    have e3 : BB ^ i * ((cr + x + y) % 4294967296) + BB ^ (i + 1) * ((cr + x + y) / 2 ^ 32) = BB ^ i * cr + (BB ^ i * x + BB ^ i * y) := by
      rw [Nat.pow_succ, Nat.mul_assoc, ← Nat.mul_add, ← Nat.mul_add, ← Nat.mul_add]
      congr 1
      rw [BB_eq]; omega
    omega
  · intro hlt
    have hlt : i = K + 1 := by have := of_decide_eq_false hlt; omega
    subst hlt
    rw [nv_take_all (by omega), nv_take_all (by omega)] at hv
    have hcr0 : cr = 0 := by
      rcases Nat.le_one_iff_eq_zero_or_eq_one.1 hcr with h0 | h0
      · exact h0
      · subst h0
        have h1 := nv_lt ho
        have h2 := nv_lt ho'
        have h3 : BB ^ a.length ≤ BB ^ K := Nat.pow_le_pow_right BB_pos hKa
        have h4 : BB ^ b.length ≤ BB ^ K := Nat.pow_le_pow_right BB_pos hKb
        have h5 := Nat.mul_le_mul_left (BB ^ K) (show 2 ≤ BB by decide)
        rw [Nat.pow_succ, Nat.mul_one] at hv
        omega
    subst hcr0
    rw [Nat.mul_zero, Nat.add_zero] at hv
    refine WC_exit ?_
    show WC E _ _ _; repeat first | refine WC_seq ?_ | refine WC_block ?_ | refine WC_region ?_
    (apply WO_mv (hn := rfl); exact lk)
    have htr : ∃ r, Lim (lm (nv a + nv b)) r ∧ ∃ m', Ev E 24 [v] me r m' := by
      rcases hA with ⟨rfl, _⟩ | ⟨bb, g, rfl, hbb⟩
      · simp at hc
      · obtain ⟨r, hr1, hr2⟩ := r1_Trim (a := c) (.inr ⟨none, rfl⟩) hoc (by omega)
        rw [hv] at hr1
        exact ⟨r, hr1, ev_msl rfl rfl rfl hbb rfl rfl (hr2 me)⟩
    obtain ⟨r, hr1, m', hr2⟩ := htr
    apply WO_ca (hn := rfl) r m'
    · exact evs1 lk
    · exact hr2
    (apply WO_as (hn := rfl); exact lk)
    refine WO_nil ?_
    show WC E _ _ _
    refine WC_ret (fin1 rfl ex_ret rfl get_hit ?_)
    obtain ⟨q3, m3, h3, h4⟩ := Lim.rd hr1 m' 11
    exact ⟨q3, m3, h3, h4⟩
end Go.Ab.T
/- The document's answer: ref1.Cmp, Sub. -/
open Go Go.Ab
namespace Go.Ab.T
set_option maxRecDepth 10000
set_option maxHeartbeats 2000000
set_option linter.unusedSimpArgs false
attribute [local irreducible] Tr.get Tr.set

theorem r1_Cmp {a b : List Nat} {p q : PV} (h : Lim a p) (h' : Lim b q) (ho : Ok a) (ho' : Ok b) (hl : a.length < 900000) (hl' : b.length < 900000) (m : PM) : Ev E 22 [p, q] m (.int .i64 (cmpI (nv a) (nv b))) m := by
  obtain ⟨p1, hp1, hp2⟩ := r1_Trim h ho hl
  obtain ⟨q1, hq1, hq2⟩ := r1_Trim h' ho' hl'
  have hla : (lm (nv a)).length < 900000 := Nat.lt_of_le_of_lt (lm_le ho) hl
  have hlb : (lm (nv b)).length < 900000 := Nat.lt_of_le_of_lt (lm_le ho') hl'
  generalize hx : nv a = x at *
  generalize hy : nv b = y at *
  refine Ev_iso rfl rfl rfl (flats2 h.flat h'.flat) (fn := Go.Proofs.Tryz.f22) rfl rfl rfl ?_ m
  show WC E _ ⟨(Tr.leaf.set 0 p).set 1 q, 47, _, _⟩ _
  have fin : ∀ {xx : Ex} {s : St} {z : Int}, (∀ i, xx ≠ .exit i) → s.df = [] → s.tm.get 4 = some (.int .i64 z) → cmpI x y = z → BodyQ E Go.Proofs.Tryz.f22 (fun v m => ∃ m2, reify 12 m v = some (.int .i64 (cmpI x y), m2)) xx s := fun {xx s z} he hd h4 hz =>
    fin1 rfl he hd h4 ⟨s.me, by rw [hz]; rfl⟩
  repeat first | refine WC_seq ?_ | refine WC_block ?_ | refine WC_region ?_
  (apply WO_as (hn := rfl); exact lk)
  refine WO_nil ?_; show WC E _ _ _; repeat first | refine WC_seq ?_ | refine WC_block ?_ | refine WC_region ?_
  (apply WO_mv (hn := rfl); exact lk)
  apply WO_ca (hn := rfl) p1 PM.empty
  · exact evs1 lk
  · exact hp2 _
  (apply WO_mv (hn := rfl); exact lk)
  apply WO_ca (hn := rfl) q1 PM.empty
  · exact evs1 lk
  · exact hq2 _
  (apply WO_as (hn := rfl); exact lk; apply WO_as (hn := rfl); exact lk)
  refine WO_nil ?_; show WC E _ _ _; repeat first | refine WC_seq ?_ | refine WC_block ?_ | refine WC_region ?_
  (apply WO_mv (hn := rfl); exact lk; apply WO_b1 (hn := rfl) (hb := rfl); exact lk; exact nk; apply WO_mv (hn := rfl); exact lk; apply WO_b1 (hn := rfl) (hb := rfl); exact lk; exact nk; apply WO_bin (hn := rfl); exact lk; exact lk; exact bk)
  refine WO_nil ?_; show WC E _ _ _; repeat first | refine WC_seq ?_ | refine WC_block ?_ | refine WC_region ?_
  apply WC_cond; (focus (apply condOf_t; (focus (first | (apply evo_t; (repeat (first | exact get_hit | assumption | refine get_miss rfl ?_ | fail)); done) | (exact rfl) | fail))))
  · intro hne
    have hne : (lm x).length ≠ (lm y).length := by simp at hne; omega
    repeat first | refine WC_seq ?_ | refine WC_block ?_ | refine WC_region ?_
    (apply WO_mv (hn := rfl); exact lk; apply WO_b1 (hn := rfl) (hb := rfl); exact lk; exact nk; apply WO_mv (hn := rfl); exact lk; apply WO_b1 (hn := rfl) (hb := rfl); exact lk; exact nk; apply WO_bin (hn := rfl); exact lk; exact lk; exact bk)
    refine WO_nil ?_; show WC E _ _ _; repeat first | refine WC_seq ?_ | refine WC_block ?_ | refine WC_region ?_
    apply WC_cond; (focus (apply condOf_t; (focus (first | (apply evo_t; (repeat (first | exact get_hit | assumption | refine get_miss rfl ?_ | fail)); done) | (exact rfl) | fail))))
    · intro hlt
      have hlt : (lm x).length < (lm y).length := by have := of_decide_eq_true hlt; omega
      repeat first | refine WC_seq ?_ | refine WC_block ?_ | refine WC_region ?_
      (apply WO_as (hn := rfl); exact lk)
      refine WO_nil ?_
      show WC E _ _ _
      refine WC_ret ?_
      show BodyQ _ _ _ _ _
      exact fin ex_ret rfl get_hit (if_pos (lm_len_lt hlt))
    · intro hlt
      have hlt : ¬ (lm x).length < (lm y).length := by have := of_decide_eq_false hlt; omega
      have := lm_len_lt (x := y) (y := x) (by omega)
      refine WC_skip ?_
      show WC E _ _ _; repeat first | refine WC_seq ?_ | refine WC_block ?_ | refine WC_region ?_
      (apply WO_as (hn := rfl); exact lk)
      refine WO_nil ?_
      show WC E _ _ _
      refine WC_ret ?_
      show BodyQ _ _ _ _ _
      refine fin ex_ret rfl get_hit ?_
      unfold cmpI
      rw [if_neg (by omega), if_neg (by omega)]
  · intro he
    have he : (lm x).length = (lm y).length := by simp at he; omega
    refine WC_skip ?_
    show WC E _ _ _; repeat first | refine WC_seq ?_ | refine WC_block ?_ | refine WC_region ?_
    (apply WO_mv (hn := rfl); exact lk; apply WO_b1 (hn := rfl) (hb := rfl); exact lk; exact nk; apply WO_bin (hn := rfl); exact lk; exact lk; exact bk; apply WO_as (hn := rfl); exact lk)
    refine WO_nil ?_; show WC E _ _ _; repeat first | refine WC_seq ?_ | refine WC_block ?_ | refine WC_region ?_
    refine WC_loop (fun j s => ∃ tm, s = ⟨tm, 47, .empty, []⟩ ∧ tm.get 5 = some p1 ∧ tm.get 6 = some q1 ∧ tm.get 7 = some (.int .i64 ((j : Int) - 1)) ∧ j ≤ (lm x).length ∧ (lm x).drop j = (lm y).drop j) (lm x).length ⟨_, rfl, gk, gk, gk, Nat.le_refl _, by rw [List.drop_length, he, List.drop_length]⟩ ?_
    rintro j s ⟨tm, rfl, h0, h1, h5, hj, hd⟩
    repeat first | refine WC_seq ?_ | refine WC_block ?_ | refine WC_region ?_
    (apply WO_mv (hn := rfl); exact lk; apply WO_bin (hn := rfl); exact lk; exact lk; exact bk)
    refine WO_nil ?_; show WC E _ _ _; repeat first | refine WC_seq ?_ | refine WC_block ?_ | refine WC_region ?_
    apply WC_cond; (focus (apply condOf_t; (focus (first | (apply evo_t; (repeat (first | exact get_hit | assumption | refine get_miss rfl ?_ | fail)); done) | (exact rfl) | fail))))
    · intro hc
      have hc : j ≠ 0 := by have := of_decide_eq_true hc; omega
      have hjj : (j : Int) - 1 = ((j - 1 : Nat) : Int) := by omega
      rw [hjj] at h5 ⊢
      obtain ⟨u, hu, hu2⟩ := lm_get (n := x) (i := j - 1) (by omega)
      obtain ⟨v, hv, hv2⟩ := lm_get (n := y) (i := j - 1) (by omega)
      have hdd : (lm x).drop (j - 1 + 1) = (lm y).drop (j - 1 + 1) := by rw [show j - 1 + 1 = j by omega]; exact hd
      refine WC_skip ?_
      show WC E _ _ _; repeat first | refine WC_seq ?_ | refine WC_block ?_ | refine WC_region ?_
      (apply WC_draw; (focus exact rfl))
      (apply WD_mv (hn := rfl); exact lk; apply WD_mv (hn := rfl); exact lk)
      apply WD_ia (hn := rfl)
      exact lk
      exact lk
      · exact ia_lim ty34 hp1 (by omega)
      apply WD_ld (hn := rfl)
      exact lk
      · exact ty68
      · exact ld_lim rfl hu
      (apply WD_mv (hn := rfl); exact lk; apply WD_mv (hn := rfl); exact lk)
      apply WD_ia (hn := rfl)
      exact lk
      exact lk
      · exact ia_lim ty34 hq1 (by omega)
      apply WD_ld (hn := rfl)
      exact lk
      · exact ty68
      · exact ld_lim rfl hv
      (apply WD_bin (hn := rfl); exact lk; exact lk; exact bk)
      refine WD_nil ⟨rfl, ?_⟩; show WC E _ _ _; repeat first | refine WC_seq ?_ | refine WC_block ?_ | refine WC_region ?_
      apply WC_cond; (focus (apply condOf_t; (focus (first | (apply evo_t; (repeat (first | exact get_hit | assumption | refine get_miss rfl ?_ | fail)); done) | (exact rfl) | fail))))
      · intro hlt
        have hlt : u < v := by have := of_decide_eq_true hlt; omega
        have := nv_lt_top (ok_lm x) hu hv hdd hlt
        rw [nv_lm, nv_lm] at this
        repeat first | refine WC_seq ?_ | refine WC_block ?_ | refine WC_region ?_
        (apply WO_as (hn := rfl); exact lk)
        refine WO_nil ?_
        show WC E _ _ _
        refine WC_ret ?_
        show BodyQ _ _ _ _ _
        exact fin ex_ret rfl get_hit (if_pos this)
      · intro hlt
        have hlt : ¬ u < v := by have := of_decide_eq_false hlt; omega
        refine WC_skip ?_
        show WC E _ _ _; repeat first | refine WC_seq ?_ | refine WC_block ?_ | refine WC_region ?_
        (apply WC_draw; (focus exact rfl))
        (apply WD_mv (hn := rfl); exact lk; apply WD_mv (hn := rfl); exact lk)
        apply WD_ia (hn := rfl)
        exact lk
        exact lk
        · exact ia_lim ty34 hp1 (by omega)
        apply WD_ld (hn := rfl)
        exact lk
        · exact ty68
        · exact ld_lim rfl hu
        (apply WD_mv (hn := rfl); exact lk; apply WD_mv (hn := rfl); exact lk)
        apply WD_ia (hn := rfl)
        exact lk
        exact lk
        · exact ia_lim ty34 hq1 (by omega)
        apply WD_ld (hn := rfl)
        exact lk
        · exact ty68
        · exact ld_lim rfl hv
        (apply WD_bin (hn := rfl); exact lk; exact lk; exact bk)
        refine WD_nil ⟨rfl, ?_⟩; show WC E _ _ _; repeat first | refine WC_seq ?_ | refine WC_block ?_ | refine WC_region ?_
        apply WC_cond; (focus (apply condOf_t; (focus (first | (apply evo_t; (repeat (first | exact get_hit | assumption | refine get_miss rfl ?_ | fail)); done) | (exact rfl) | fail))))
        · intro hgt
          have hgt : v < u := by have := of_decide_eq_true hgt; omega
          have := nv_lt_top (ok_lm y) hv hu hdd.symm hgt
          rw [nv_lm, nv_lm] at this
          repeat first | refine WC_seq ?_ | refine WC_block ?_ | refine WC_region ?_
          (apply WO_as (hn := rfl); exact lk)
          refine WO_nil ?_
          show WC E _ _ _
          refine WC_ret ?_
          show BodyQ _ _ _ _ _
          refine fin ex_ret rfl get_hit ?_
          unfold cmpI
          rw [if_neg (by omega), if_neg (by omega)]
        · intro hgt
          have heq : u = v := by have := of_decide_eq_false hgt; omega
          refine WC_skip ?_
          show WC E _ _ _; repeat first | refine WC_seq ?_ | refine WC_block ?_ | refine WC_region ?_
          (apply WO_mv (hn := rfl); exact lk; apply WO_bin (hn := rfl); exact lk; exact lk; exact bk; apply WO_as (hn := rfl); exact lk)
          refine WO_nil ?_
          refine ⟨j - 1, by omega, _, rfl, gk, gk, get_hit, by omega, ?_⟩
          have e1 := List.drop_eq_getElem_cons (l := lm x) (i := j - 1) (by omega)
          have e2 := List.drop_eq_getElem_cons (l := lm y) (i := j - 1) (by omega)
          rw [e1, e2, show j - 1 + 1 = j by omega, hd]
          congr 1
          rw [List.getElem?_eq_getElem (by omega)] at hu hv
          rw [Option.some.inj hu, Option.some.inj hv, heq]
    · intro hc
      have hc : j = 0 := by have := of_decide_eq_false hc; omega
      subst hc
      refine WC_exit ?_
      show WC E _ _ _; repeat first | refine WC_seq ?_ | refine WC_block ?_ | refine WC_region ?_
      (apply WO_as (hn := rfl); exact lk)
      refine WO_nil ?_
      show WC E _ _ _
      refine WC_ret ?_
      show BodyQ _ _ _ _ _
      refine fin ex_ret rfl get_hit ?_
      rw [List.drop_zero, List.drop_zero] at hd
      have : x = y := by rw [← nv_lm x, hd, nv_lm]
      unfold cmpI
      rw [if_neg (by omega), if_pos this]

theorem r1_sub_digit {x y : Nat} (hx : x < 4294967296) (hy : y ≤ 4294967296) : ((if x < y then x + 4294967296 else x) - y) % 4294967296 + y = x + 4294967296 * (if x < y then 1 else 0) := by
  split <;> omega

theorem r1_Sub {a b : List Nat} {p q : PV} (h : Lim a p) (h' : Lim b q) (ho : Ok a) (ho' : Ok b) (hl : a.length < 800000) (hl' : b.length < 800000) (hle : nv b ≤ nv a) : ∃ r, Lim (lm (nv a - nv b)) r ∧ ∀ m, Ev E 23 [p, q] m (.tup [r, .bool true]) m := by
  have hcmp := r1_Cmp h h' ho ho' (by omega) (by omega)
  suffices hh : ∃ v, (∃ r, v = .tup [r, .bool true] ∧ Lim (lm (nv a - nv b)) r) ∧ ∀ m, Ev E 23 [p, q] m v m by
    obtain ⟨v, ⟨r, rfl, h1⟩, h2⟩ := hh
    exact ⟨r, h1, h2⟩
  refine Ev_isoE rfl rfl rfl (flats2 h.flat h'.flat) (fn := Go.Proofs.Tryz.f23) rfl rfl rfl ?_
  show WC E _ ⟨(Tr.leaf.set 0 p).set 1 q, 43, _, _⟩ _
  repeat first | refine WC_seq ?_ | refine WC_block ?_ | refine WC_region ?_
  (apply WO_as (hn := rfl); exact lk; apply WO_as (hn := rfl); exact lk)
  refine WO_nil ?_; show WC E _ _ _; repeat first | refine WC_seq ?_ | refine WC_block ?_ | refine WC_region ?_
  (apply WO_mv (hn := rfl); exact lk; apply WO_mv (hn := rfl); exact lk)
  apply WO_ca (hn := rfl) (.int .i64 (cmpI (nv a) (nv b))) PM.empty
  · apply evs2
    exact lk
    exact lk
  · exact hcmp _
  (apply WO_bin (hn := rfl); exact lk; exact lk; exact bk)
  refine WO_nil ?_
  show WC E _ _ _
  apply WC_cond; (focus (apply condOf_t; (focus (first | (apply evo_t; (repeat (first | exact get_hit | assumption | refine get_miss rfl ?_ | fail)); done) | (exact rfl) | fail))))
  · intro hlt
    exfalso
    have := of_decide_eq_true hlt
    unfold cmpI at this
    rw [if_neg (by omega)] at this
    split at this <;> omega
  intro _
  refine WC_skip ?_
  show WC E _ _ _; repeat first | refine WC_seq ?_ | refine WC_block ?_ | refine WC_region ?_
  (apply WO_as (hn := rfl); exact lk)
  refine WO_nil ?_; show WC E _ _ _; repeat first | refine WC_seq ?_ | refine WC_block ?_ | refine WC_region ?_
  (apply WO_as (hn := rfl); exact lk)
  refine WO_nil ?_; show WC E _ _ _; repeat first | refine WC_seq ?_ | refine WC_block ?_ | refine WC_region ?_
  (apply WO_as (hn := rfl); exact lk)
  refine WO_nil ?_; show WC E _ _ _; repeat first | refine WC_seq ?_ | refine WC_block ?_ | refine WC_region ?_
  refine WC_loop (fun j s => ∃ (tm : Tr PV) (me : PM) (i bo : Nat) (c : List Nat) (v : PV), s = ⟨tm, 43, me, []⟩ ∧ tm.get 0 = some p ∧ tm.get 1 = some q ∧ tm.get 8 = some (.int .i64 (i : Int)) ∧ tm.get 7 = some (.int .u64 (bo : Int)) ∧ tm.get 6 = some v ∧ App c me v ∧ c.length = i ∧ Ok c ∧ i ≤ a.length ∧ j = a.length - i ∧ bo ≤ 1 ∧ nv c + nv (b.take i) = nv (a.take i) + BB ^ i * bo) a.length
    ⟨_, _, 0, 0, [], .nils, rfl, gk, gk, gk, gk, gk, .inl ⟨rfl, rfl⟩, rfl, .nil, by omega, by omega, by omega, by simp [nv]⟩ ?_
  rintro j s ⟨tm, me, i, bo, c, v, rfl, g0, g1, g8, g7, g6, hA, hc, hoc, hi, hj, hbo, hv⟩
  repeat first | refine WC_seq ?_ | refine WC_block ?_ | refine WC_region ?_
  (apply WO_mv (hn := rfl); exact lk; apply WO_mv (hn := rfl); exact lk; apply WO_b1 (hn := rfl) (hb := rfl); exact lk; exact nk; apply WO_bin (hn := rfl); exact lk; exact lk; exact bk)
  refine WO_nil ?_; show WC E _ _ _; repeat first | refine WC_seq ?_ | refine WC_block ?_ | refine WC_region ?_
  apply WC_cond; (focus (apply condOf_t; (focus (first | (apply evo_t; (repeat (first | exact get_hit | assumption | refine get_miss rfl ?_ | fail)); done) | (exact rfl) | fail))))
  · intro hlt
    have hlt : i < a.length := by have := of_decide_eq_true hlt; omega
    obtain ⟨x, hx⟩ : ∃ x, a[i]? = some x := ⟨_, List.getElem?_eq_getElem hlt⟩
    have hx2 : x < 4294967296 := ho.get hx
    have hb2 : b[i]?.getD 0 < 4294967296 := by
      cases hw : b[i]? with
      | none => decide
      | some w => exact ho'.get hw
    have e1 := nv_take_succ hx
    have e2 := nv_take_getD b i
    have at1 := r1_at (i := i) h ho (by omega)
    rw [hx, Option.getD_some] at at1
    have at2 := r1_at (i := i) h' ho' (by omega)
    generalize b[i]?.getD 0 = y at *
    refine WC_skip ?_
    show WC E _ _ _; repeat first | refine WC_seq ?_ | refine WC_block ?_ | refine WC_region ?_
    (apply WO_mv (hn := rfl); exact lk; apply WO_mv (hn := rfl); exact lk)
    apply WO_ca (hn := rfl) (.int .u64 (x : Int)) me
    · apply evs2
      exact lk
      exact lk
    · exact at1 me
    (apply WO_mv (hn := rfl); exact lk; apply WO_mv (hn := rfl); exact lk)
    apply WO_ca (hn := rfl) (.int .u64 (y : Int)) me
    · apply evs2
      exact lk
      exact lk
    · exact at2 me
    (apply WO_mv (hn := rfl); exact lk; apply WO_bin (hn := rfl); exact lk; exact lk; exact bk; apply WO_as (hn := rfl); exact lk; apply WO_as (hn := rfl); exact lk)
    refine WO_nil ?_; show WC E _ _ _; repeat first | refine WC_seq ?_ | refine WC_block ?_ | refine WC_region ?_
    (apply WO_as (hn := rfl); exact lk)
    refine WO_nil ?_; show WC E _ _ _; repeat first | refine WC_seq ?_ | refine WC_block ?_ | refine WC_region ?_
    (apply WO_mv (hn := rfl); exact lk; apply WO_mv (hn := rfl); exact lk; apply WO_bin (hn := rfl); exact lk; exact lk; exact bk)
    refine WO_nil ?_
    show WC E _ _ _
    have hdig := r1_sub_digit (x := x) (y := y + bo) hx2 (by omega)
    generalize hZ : (if x < y + bo then x + 4294967296 else x) = z at *
    generalize hO : (if x < y + bo then 1 else 0) = o at *
    refine WC.mono (Q := fun xx s' => xx = .nrm ∧ ∃ tm, s' = ⟨tm, 43, me, []⟩ ∧ tm.get 0 = some p ∧ tm.get 1 = some q ∧ tm.get 8 = some (.int .i64 (i : Int)) ∧ tm.get 7 = some (.int .u64 (o : Int)) ∧ tm.get 6 = some v ∧ tm.get 9 = some (.int .u64 (z : Int)) ∧ tm.get 10 = some (.int .u64 ((y + bo : Nat) : Int))) ?_ ?_
    · apply WC_cond; (focus (apply condOf_t; (focus (first | (apply evo_t; (repeat (first | exact get_hit | assumption | refine get_miss rfl ?_ | fail)); done) | (exact rfl) | fail))))
      · intro hlt2
        have hlt2 : x < y + bo := by have := of_decide_eq_true hlt2; omega
        rw [if_pos hlt2] at hZ hO
        subst hZ; subst hO
        repeat first | refine WC_seq ?_ | refine WC_block ?_ | refine WC_region ?_
        (apply WO_mv (hn := rfl); exact lk)
        apply WO_bin (hn := rfl)
        exact lk
        · exact rfl
        · exact b_addU (b := 4294967296) (by omega)
        (apply WO_as (hn := rfl); exact lk)
        refine WO_nil ?_; show WC E _ _ _; repeat first | refine WC_seq ?_ | refine WC_block ?_ | refine WC_region ?_
        (apply WO_as (hn := rfl); exact lk)
        exact WO_nil ⟨rfl, _, rfl, gk, gk, gk, gk, gk, gk, gk⟩
      · intro hlt2
        have hlt2 : ¬ x < y + bo := by have := of_decide_eq_false hlt2; omega
        rw [if_neg hlt2] at hZ hO
        subst hZ; subst hO
        exact WC_skip ⟨rfl, _, rfl, gk, gk, gk, gk, gk, gk, gk⟩
    have hz1 : y + bo ≤ z := by rw [← hZ]; split <;> omega
    have hz2 : z < 8589934592 := by rw [← hZ]; split <;> omega
    have ho1 : o ≤ 1 := by rw [← hO]; split <;> omega
    clear g0 g1 g8 g7 g6
    rintro _ _ ⟨rfl, tm, rfl, g0, g1, g8, g7, g6, g9, g10⟩
    show WC E _ _ _; repeat first | refine WC_seq ?_ | refine WC_block ?_ | refine WC_region ?_
    (apply WO_mv (hn := rfl); exact lk; apply WO_mv (hn := rfl); exact lk; apply WO_mv (hn := rfl); exact lk; apply WO_bin (hn := rfl); exact lk; exact lk; exact bk; apply WO_cv (hn := rfl); exact lk; exact rfl; exact rfl; exact ck)
    apply WO_bs (hn := rfl)
    · apply evps1
      exact lk
    · exact rfl
    obtain ⟨w, m', k1, k2⟩ := app_one hA (by omega) (x := (z - (y + bo)) % 4294967296) (cp := some 1)
    apply WO_m2 (hn := rfl) (hb := rfl)
    exact lk
    exact lk
    · exact k1
    (apply WO_as (hn := rfl); exact lk)
    refine WO_nil ?_; show WC E _ _ _; repeat first | refine WC_seq ?_ | refine WC_block ?_ | refine WC_region ?_
    (apply WO_mv (hn := rfl); exact lk; apply WO_bin (hn := rfl); exact lk; exact lk; exact bk; apply WO_as (hn := rfl); exact lk)
    refine WO_nil ?_
    refine ⟨j - 1, by omega, _, _, i + 1, o, _, w, rfl, gk, gk, gk, gk, gk, k2, by rw [List.length_append, hc]; rfl, hoc.append (.cons (Nat.mod_lt _ BB_pos) .nil), by omega, by omega, ho1, ?_⟩
    rw [nv_snoc, hc, e1, e2]
    have e3 : BB ^ i * ((z - (y + bo)) % 4294967296) + BB ^ i * (y + bo) = BB ^ i * x + BB ^ (i + 1) * o := by
      rw [Nat.pow_succ, Nat.mul_assoc, ← Nat.mul_add, ← Nat.mul_add]
      congr 1
    rw [Nat.mul_add] at e3
    omega
  · intro hlt
    have hlt : i = a.length := by have := of_decide_eq_false hlt; omega
    subst hlt
    rw [nv_take_all (Nat.le_refl _)] at hv
    have hbt : nv (b.take a.length) = nv b := by
      by_cases hbl : b.length ≤ a.length
      · exact nv_take_all hbl
      · have e1 := nv_split b a.length (by omega)
        have e2 := nv_lt ho
        have : nv (b.drop a.length) = 0 := by
          refine Nat.eq_zero_of_not_pos fun hp => ?_
          have := Nat.mul_le_mul_left (BB ^ a.length) (show 1 ≤ nv (b.drop a.length) from hp)
          omega
        rw [this] at e1
        omega
    rw [hbt] at hv
    have hbo0 : bo = 0 := by
      rcases Nat.le_one_iff_eq_zero_or_eq_one.1 hbo with h0 | h0
      · exact h0
      · subst h0
        have h1 := nv_lt hoc
        rw [hc] at h1
        omega
    subst hbo0
    have hcv : nv c = nv a - nv b := by omega
    refine WC_exit ?_
    show WC E _ _ _; repeat first | refine WC_seq ?_ | refine WC_block ?_ | refine WC_region ?_
    (apply WO_mv (hn := rfl); exact lk)
    have htr : ∃ r, Lim (lm (nv a - nv b)) r ∧ ∃ m', Ev E 24 [v] me r m' := by
      rcases hA with ⟨rfl, rfl⟩ | ⟨bb, g, rfl, hbb⟩
      · obtain ⟨r, hr1, hr2⟩ := r1_Trim (a := []) (p := .nils) (.inl ⟨rfl, rfl⟩) .nil (by decide)
        rw [hcv] at hr1
        exact ⟨r, hr1, me, hr2 me⟩
      · obtain ⟨r, hr1, hr2⟩ := r1_Trim (a := c) (.inr ⟨none, rfl⟩) hoc (by omega)
        rw [hcv] at hr1
        exact ⟨r, hr1, ev_msl rfl rfl rfl hbb rfl rfl (hr2 me)⟩
    obtain ⟨r, hr1, m', hr2⟩ := htr
    apply WO_ca (hn := rfl) r m'
    · exact evs1 lk
    · exact hr2
    (apply WO_as (hn := rfl); exact lk; apply WO_as (hn := rfl); exact lk)
    refine WO_nil ?_
    show WC E _ _ _
    refine WC_ret (fin2 rfl ex_ret rfl gk gk ?_)
    exact ⟨_, m', reify_t2 (Lim.flat hr1) rfl, r, rfl, hr1⟩
end Go.Ab.T
/- The document's answer: ref1.Mul. -/
open Go Go.Ab
namespace Go.Ab.T
set_option maxRecDepth 10000
set_option maxHeartbeats 2000000
set_option linter.unusedSimpArgs false
attribute [local irreducible] Tr.get Tr.set

theorem same_top {d c : List Nat} {n t : Nat} (hd : d.drop n = c.drop n) (hn : n ≤ c.length) (hl : d.length = c.length) (h : nv (d.take n) = nv (c.take n) + t) : nv d = nv c + t := by
  rw [nv_split d n (by omega), nv_split c n hn, hd, h]; omega
theorem r1_Mul {a b : List Nat} {p q : PV} (h : Lim a p) (h' : Lim b q) (ho : Ok a) (ho' : Ok b) (hl : a.length < 400000) (hl' : b.length < 400000) : ∃ r, Lim (lm (nv a * nv b)) r ∧ ∀ m, Ev E 20 [p, q] m r m := by
  refine Ev_isoE rfl rfl rfl (flats2 h.flat h'.flat) (fn := Go.Proofs.Tryz.f20) rfl rfl rfl ?_
  show WC E _ ⟨(Tr.leaf.set 0 p).set 1 q, 67, _, _⟩ _
  repeat first | refine WC_seq ?_ | refine WC_block ?_ | refine WC_region ?_
  (apply WO_as (hn := rfl); exact lk)
  refine WO_nil ?_; show WC E _ _ _; repeat first | refine WC_seq ?_ | refine WC_block ?_ | refine WC_region ?_
  (apply WO_mv (hn := rfl); exact lk; apply WO_b1 (hn := rfl) (hb := rfl); exact lk; exact nk; apply WO_mv (hn := rfl); exact lk; apply WO_b1 (hn := rfl) (hb := rfl); exact lk; exact nk; apply WO_bin (hn := rfl); exact lk; exact lk; exact bk)
  apply WO_mk (hn := rfl)
  exact lk
  exact lk
  · exact mk_msl ty34 (n := a.length + b.length) (by omega)
  (apply WO_as (hn := rfl); exact lk)
  refine WO_nil ?_; show WC E _ _ _; repeat first | refine WC_seq ?_ | refine WC_block ?_ | refine WC_region ?_
  (apply WO_as (hn := rfl); exact lk)
  refine WO_nil ?_; show WC E _ _ _; repeat first | refine WC_seq ?_ | refine WC_block ?_ | refine WC_region ?_
  refine WC_loop (fun j s => ∃ (tm : Tr PV) (me : PM) (i : Nat) (c : List Nat), s = ⟨tm, 67, me, []⟩ ∧ tm.get 0 = some p ∧ tm.get 1 = some q ∧ tm.get 6 = some (.int .i64 (i : Int)) ∧ tm.get 5 = some (.msl 0 0 0 (a.length + b.length) 1) ∧
    me.get 0 = some (.cells (cu c) 0 false 68) ∧ c.length = a.length + b.length ∧ Ok c ∧ i ≤ a.length ∧ j = a.length - i ∧ nv c = nv (a.take i) * nv b) a.length
    ⟨_, _, 0, List.replicate (a.length + b.length) 0, rfl, gk, gk, gk, gk, one_get0, by simp, .replicate, by omega, by omega, by simp [nv, nv_replicate]⟩ ?_
  rintro j s ⟨tm, me, i, c, rfl, g0, g1, g6, g5, hb, hc, hoc, hi, hj, hv⟩
  repeat first | refine WC_seq ?_ | refine WC_block ?_ | refine WC_region ?_
  (apply WO_mv (hn := rfl); exact lk; apply WO_mv (hn := rfl); exact lk; apply WO_b1 (hn := rfl) (hb := rfl); exact lk; exact nk; apply WO_bin (hn := rfl); exact lk; exact lk; exact bk)
  refine WO_nil ?_; show WC E _ _ _; repeat first | refine WC_seq ?_ | refine WC_block ?_ | refine WC_region ?_
  apply WC_cond; (focus (apply condOf_t; (focus (first | (apply evo_t; (repeat (first | exact get_hit | assumption | refine get_miss rfl ?_ | fail)); done) | (exact rfl) | fail))))
  · intro hlt
    have hlt : i < a.length := by have := of_decide_eq_true hlt; omega
    obtain ⟨u, hu⟩ : ∃ u, a[i]? = some u := ⟨_, List.getElem?_eq_getElem hlt⟩
    have hu2 : u < 4294967296 := ho.get hu
    have htot : nv c + BB ^ i * u * nv b = nv (a.take (i + 1)) * nv b := by rw [hv, nv_take_succ hu, Nat.add_mul]
    have hbig : nv (a.take (i + 1)) * nv b < BB ^ (a.length + b.length) := by
      have h1 := nv_lt (ho.take (i + 1))
      rw [List.length_take, Nat.min_eq_left (by omega)] at h1
      have h2 := nv_lt ho'
      have h3 : BB ^ (i + 1) ≤ BB ^ a.length := Nat.pow_le_pow_right BB_pos (by omega)
      rw [Nat.pow_add]
      calc nv (a.take (i + 1)) * nv b ≤ BB ^ a.length * nv b := Nat.mul_le_mul_right _ (by omega)
        _ < BB ^ a.length * BB ^ b.length := (Nat.mul_lt_mul_left (Nat.pow_pos BB_pos)).2 h2
    refine WC_skip ?_
    show WC E _ _ _; repeat first | refine WC_seq ?_ | refine WC_block ?_ | refine WC_region ?_
    (apply WO_as (hn := rfl); exact lk)
    refine WO_nil ?_; show WC E _ _ _; repeat first | refine WC_seq ?_ | refine WC_block ?_ | refine WC_region ?_
    (apply WO_as (hn := rfl); exact lk)
    refine WO_nil ?_
    show WC E _ _ _
    -- the inner loop
    refine WC.mono (Q := fun xx s' => xx = .nrm ∧ ∃ tm me d, s' = ⟨tm, 67, me, []⟩ ∧ tm.get 0 = some p ∧ tm.get 1 = some q ∧ tm.get 6 = some (.int .i64 (i : Int)) ∧ tm.get 5 = some (.msl 0 0 0 (a.length + b.length) 1) ∧ me.get 0 = some (.cells (cu d) 0 false 68) ∧ d.length = a.length + b.length ∧ Ok d ∧ nv d = nv (a.take (i + 1)) * nv b) ?_ ?_
    · refine WC_block ?_
      refine WC_loop (fun j s => ∃ (tm : Tr PV) (me : PM) (k : Nat) (d : List Nat) (cr : Nat), s = ⟨tm, 67, me, []⟩ ∧ tm.get 0 = some p ∧ tm.get 1 = some q ∧ tm.get 6 = some (.int .i64 (i : Int)) ∧ tm.get 5 = some (.msl 0 0 0 (a.length + b.length) 1) ∧ tm.get 7 = some (.int .u64 (cr : Int)) ∧ tm.get 8 = some (.int .i64 (k : Int)) ∧
        me.get 0 = some (.cells (cu d) 0 false 68) ∧ d.length = a.length + b.length ∧ Ok d ∧ i + k ≤ a.length + b.length ∧ j = a.length + b.length - (i + k) ∧ cr < 4294967296 ∧ d.drop (i + k) = c.drop (i + k) ∧ nv (d.take (i + k)) + BB ^ (i + k) * cr = nv (c.take (i + k)) + BB ^ i * u * nv (b.take k)) (a.length + b.length - i)
        ⟨_, _, 0, c, 0, rfl, gk, gk, gk, gk, gk, gk, hb, hc, hoc, by omega, by omega, by omega, rfl, by simp [nv]⟩ ?_
      clear g0 g1 g6 g5 hb
      rintro j2 s ⟨tm, me, k, d, cr, rfl, g0, g1, g6, g5, g7, g8, hb, hd, hod, hik, hj2, hcr, hdd, hw⟩
      refine WC_seq ?_
      refine WC.mono (Q := fun xx s' => (xx = .exit 2 ∧ b.length ≤ k ∧ cr = 0 ∧ ∃ tm, s' = ⟨tm, 67, me, []⟩ ∧ tm.get 0 = some p ∧ tm.get 1 = some q ∧ tm.get 6 = some (.int .i64 (i : Int)) ∧ tm.get 5 = some (.msl 0 0 0 (a.length + b.length) 1)) ∨
        (xx = .nrm ∧ ∃ tm, s' = ⟨tm, 67, me, []⟩ ∧ tm.get 0 = some p ∧ tm.get 1 = some q ∧ tm.get 6 = some (.int .i64 (i : Int)) ∧ tm.get 5 = some (.msl 0 0 0 (a.length + b.length) 1) ∧ tm.get 7 = some (.int .u64 (cr : Int)) ∧ tm.get 8 = some (.int .i64 (k : Int)))) ?_ ?_
      · repeat first | refine WC_seq ?_ | refine WC_block ?_ | refine WC_region ?_
        by_cases hkb : k < b.length
        · (apply WO_mv (hn := rfl); exact lk; apply WO_mv (hn := rfl); exact lk; apply WO_b1 (hn := rfl) (hb := rfl); exact lk; exact nk; apply WO_bin (hn := rfl); exact lk; exact lk; exact bk; apply WO_mv (hn := rfl); exact lk; apply WO_gf; exact uk; exact rfl; apply WO_gf; exact uk; exact rfl)
          apply WO_pkt (hn := rfl)
          exact lk
          · exact decide_eq_true (by omega)
          exact lk
          refine WO_nil ?_
          show WC E _ _ _
          apply WC_true
          · apply condOf_t
            exact lk
          exact WC_skip (.inr ⟨rfl, _, rfl, gk, gk, gk, gk, gk, gk⟩)
        · (apply WO_mv (hn := rfl); exact lk; apply WO_mv (hn := rfl); exact lk; apply WO_b1 (hn := rfl) (hb := rfl); exact lk; exact nk; apply WO_bin (hn := rfl); exact lk; exact lk; exact bk; apply WO_mv (hn := rfl); exact lk; apply WO_gt; exact uk; apply WO_mv (hn := rfl); exact lk; apply WO_gt; exact uk; apply WO_bin (hn := rfl); exact lk; exact lk; exact bk)
          apply WO_pkf (hn := rfl)
          exact lk
          · exact decide_eq_false (by omega)
          exact lk
          refine WO_nil ?_
          show WC E _ _ _
          apply WC_cond; (focus (apply condOf_t; (focus (first | (apply evo_t; (repeat (first | exact get_hit | assumption | refine get_miss rfl ?_ | fail)); done) | (exact rfl) | fail))))
          · intro _
            exact WC_skip (.inr ⟨rfl, _, rfl, gk, gk, gk, gk, gk, gk⟩)
          · intro hz
            have hz : cr = 0 := by have := of_decide_eq_false hz; omega
            exact WC_exit (.inl ⟨rfl, by omega, hz, _, rfl, gk, gk, gk, gk⟩)
      · clear g0 g1 g6 g5 g7 g8
        rintro xx s' (⟨rfl, hkb, hcr0, tm, rfl, g0, g1, g6, g5⟩ | ⟨rfl, tm, rfl, g0, g1, g6, g5, g7, g8⟩)
        · subst hcr0
          rw [Nat.mul_zero, Nat.add_zero, nv_take_all hkb] at hw
          refine ⟨rfl, tm, me, d, rfl, g0, g1, g6, g5, hb, hd, hod, ?_⟩
          rw [← htot]
          exact same_top hdd (by omega) (by omega) hw
        · show WC E _ _ _; repeat first | refine WC_seq ?_ | refine WC_block ?_ | refine WC_region ?_
          (apply WO_mv (hn := rfl); exact lk; apply WO_mv (hn := rfl); exact lk; apply WO_bin (hn := rfl); exact lk; exact lk; exact bk; apply WO_mv (hn := rfl); exact lk; apply WO_b1 (hn := rfl) (hb := rfl); exact lk; exact nk; apply WO_bin (hn := rfl); exact lk; exact lk; exact bk)
          refine WO_nil ?_
          show WC E _ _ _
          apply WC_cond; (focus (apply condOf_t; (focus (first | (apply evo_t; (repeat (first | exact get_hit | assumption | refine get_miss rfl ?_ | fail)); done) | (exact rfl) | fail))))
          · intro hge
            have hge : i + k = a.length + b.length := by have := of_decide_eq_true hge; omega
            refine WC_exit ?_
            rw [nv_take_all (c := d) (by omega), nv_take_all (c := c) (by omega), nv_take_all (c := b) (by omega), htot, hge] at hw
            have hcr0 : cr = 0 := by
              refine Nat.eq_zero_of_not_pos fun hp => ?_
              have := Nat.mul_le_mul_left (BB ^ (a.length + b.length)) (show 1 ≤ cr from hp)
              omega
            subst hcr0
            exact ⟨rfl, _, me, d, rfl, gk, gk, gk, gk, hb, hd, hod, by omega⟩
          · intro hge
            have hge : i + k < a.length + b.length := by have := of_decide_eq_false hge; omega
            refine WC_skip ?_
            have hw2 : b[k]?.getD 0 < 4294967296 := by
              cases hw : b[k]? with
              | none => decide
              | some w => exact ho'.get hw
            have at2 := r1_at (i := k) h' ho' (by omega)
            have e2 := nv_take_getD b k
            generalize b[k]?.getD 0 = w at *
            obtain ⟨z, hz1⟩ : ∃ z, d[i + k]? = some z := ⟨_, List.getElem?_eq_getElem (by omega)⟩
            have hz2 : z < 4294967296 := hod.get hz1
            have hmul := mulB hu2 hw2
            show WC E _ _ _; repeat first | refine WC_seq ?_ | refine WC_block ?_ | refine WC_region ?_
            (apply WC_draw; (focus exact rfl))
            (apply WD_mv (hn := rfl); exact lk; apply WD_mv (hn := rfl); exact lk; apply WD_mv (hn := rfl); exact lk)
            apply WD_ia (hn := rfl)
            exact lk
            exact lk
            · exact ia_lim ty34 h hlt
            apply WD_ld (hn := rfl)
            exact lk
            · exact ty68
            · exact ld_lim rfl hu
            (apply WD_cv (hn := rfl); exact lk; exact rfl; exact rfl; exact ck; apply WD_mv (hn := rfl); exact lk; apply WD_mv (hn := rfl); exact lk)
            apply WD_pu (hn := rfl)
            · apply evs2
              exact lk
              exact lk
            · exact at2 me
            · exact pure_of rfl rfl (flats2 h'.flat rfl)
            (apply WD_bin (hn := rfl); exact lk; exact lk; exact bk; apply WD_bin (hn := rfl); exact lk; exact lk; exact bk; apply WD_mv (hn := rfl); exact lk; apply WD_mv (hn := rfl); exact lk; apply WD_mv (hn := rfl); exact lk; apply WD_bin (hn := rfl); exact lk; exact lk; exact bk)
            apply WD_ia (hn := rfl)
            exact lk
            exact lk
            · rw [show (i : Int) + (k : Int) = ((i + k : Nat) : Int) from rfl]
              exact ia_msl ty34 (by omega)
            apply WD_ld (hn := rfl)
            exact lk
            · exact ty68
            · rw [Nat.zero_add]; exact ld_msl rfl hb hz1
            (apply WD_cv (hn := rfl); exact lk; exact rfl; exact rfl; exact ck; apply WD_bin (hn := rfl); exact lk; exact lk; exact bk; apply WD_as (hn := rfl); exact lk)
            refine WD_nil ⟨rfl, ?_⟩
            show WC E _ _ _
            repeat first | refine WC_seq ?_ | refine WC_block ?_ | refine WC_region ?_
            (apply WO_mv (hn := rfl); exact lk; apply WO_mv (hn := rfl); exact lk; apply WO_mv (hn := rfl); exact lk; apply WO_bin (hn := rfl); exact lk; exact lk; exact bk; apply WO_mv (hn := rfl); exact lk; apply WO_cv (hn := rfl); exact lk; exact rfl; exact rfl; exact ck)
            apply WO_ia (hn := rfl)
            exact lk
            exact lk
            · rw [show (i : Int) + (k : Int) = ((i + k : Nat) : Int) from rfl]
              exact ia_msl ty34 (by omega)
            apply WO_st
            exact lk
            exact lk
            · rw [Nat.zero_add]; exact st_msl ty68 hb (by omega)
            skip
            refine WO_nil ?_; show WC E _ _ _; repeat first | refine WC_seq ?_ | refine WC_block ?_ | refine WC_region ?_
            (apply WO_mv (hn := rfl); exact lk; apply WO_bin (hn := rfl); exact lk; exact lk; exact bk; apply WO_as (hn := rfl); exact lk)
            refine WO_nil ?_; show WC E _ _ _; repeat first | refine WC_seq ?_ | refine WC_block ?_ | refine WC_region ?_
            (apply WO_mv (hn := rfl); exact lk; apply WO_bin (hn := rfl); exact lk; exact lk; exact bk; apply WO_as (hn := rfl); exact lk)
            refine WO_nil ?_
            refine ⟨j2 - 1, by omega, _, _, k + 1, d.set (i + k) ((cr + u * w + z) % 4294967296), (cr + u * w + z) / 2 ^ 32, rfl, gk, gk, gk, gk, gk, gk, by rw [PM.get_upd, if_pos rfl], by simpa using hd, hod.set (Nat.mod_lt _ BB_pos), by omega, by omega, by omega, ?_, ?_⟩
            · rw [← Nat.add_assoc, drop_set_of_lt (by omega)]
              exact drop_succ_of hdd
            · rw [← Nat.add_assoc]
              refine put_carry (by omega) ?_
              have hz3 : c[i + k]? = some z := by rw [← get_of_drop hdd]; exact hz1
              rw [nv_take_succ hz3, e2]
              have e : BB ^ i * u * (nv (b.take k) + BB ^ k * w) = BB ^ i * u * nv (b.take k) + BB ^ (i + k) * (u * w) := by
                rw [Nat.mul_add, Nat.pow_add, Nat.mul_assoc (BB ^ i) u (BB ^ k * w), Nat.mul_left_comm u (BB ^ k) w, Nat.mul_assoc, Nat.mul_assoc (BB ^ i) (BB ^ k)]
              rw [e, Nat.mul_add, Nat.mul_add]
              omega
    · clear g0 g1 g6 g5 hb
      rintro _ _ ⟨rfl, tm, me, d, rfl, g0, g1, g6, g5, hb, hd, hod, hvd⟩
      show WC E _ _ _; repeat first | refine WC_seq ?_ | refine WC_block ?_ | refine WC_region ?_
      (apply WO_mv (hn := rfl); exact lk; apply WO_bin (hn := rfl); exact lk; exact lk; exact bk; apply WO_as (hn := rfl); exact lk)
      refine WO_nil ?_
      exact ⟨j - 1, by omega, _, _, i + 1, d, rfl, gk, gk, gk, gk, hb, hd, hod, by omega, by omega, hvd⟩
  · intro hlt
    have hlt : i = a.length := by have := of_decide_eq_false hlt; omega
    subst hlt
    rw [nv_take_all (Nat.le_refl _)] at hv
    refine WC_exit ?_
    show WC E _ _ _; repeat first | refine WC_seq ?_ | refine WC_block ?_ | refine WC_region ?_
    (apply WO_mv (hn := rfl); exact lk)
    obtain ⟨r, hr1, hr2⟩ := r1_Trim (a := c) (.inr ⟨none, rfl⟩) hoc (by omega)
    rw [hv] at hr1
    obtain ⟨m', hm'⟩ := ev_msl (f := 24) rfl rfl rfl hb rfl hc.symm (hr2 _)
    apply WO_ca (hn := rfl) r m'
    · exact evs1 lk
    · exact hm'
    (apply WO_as (hn := rfl); exact lk)
    refine WO_nil ?_
    show WC E _ _ _
    refine WC_ret (fin1 rfl ex_ret rfl get_hit ?_)
    obtain ⟨q3, m3, h3, h4⟩ := Lim.rd hr1 m' 11
    exact ⟨q3, m3, h3, h4⟩
end Go.Ab.T
/- The document's answer: ref1.small, Shift by one bit. -/
open Go Go.Ab
namespace Go.Ab.T
set_option maxRecDepth 10000
set_option maxHeartbeats 2000000
set_option linter.unusedSimpArgs false
attribute [local irreducible] Tr.get Tr.set

theorem r1_small {a : List Nat} {p : PV} {y : Nat} (h : Lim a p) (ho : Ok a) (hl : a.length < 900000) (hy0 : y ≠ 0) (hy : y < 4294967296) : ∃ r, Lim (lm (nv a / y)) r ∧ ∀ m, Ev E 63 [p, .int .u64 (y : Int)] m (.tup [r, .int .u64 ((nv a % y : Nat) : Int)]) m := by
  suffices hh : ∃ q, (∃ r, q = .tup [r, .int .u64 ((nv a % y : Nat) : Int)] ∧ Lim (lm (nv a / y)) r) ∧ ∀ m, Ev E 63 [p, .int .u64 (y : Int)] m q m by
    obtain ⟨q, ⟨r, rfl, h1⟩, h2⟩ := hh
    exact ⟨r, h1, h2⟩
  refine Ev_isoE rfl rfl rfl (flats2 h.flat rfl) (fn := Go.Proofs.Tryz.f63) rfl rfl rfl ?_
  show WC E _ ⟨(Tr.leaf.set 0 p).set 1 _, 40, _, _⟩ _
  repeat first | refine WC_seq ?_ | refine WC_block ?_ | refine WC_region ?_
  (apply WO_as (hn := rfl); exact lk; apply WO_as (hn := rfl); exact lk)
  refine WO_nil ?_; show WC E _ _ _; repeat first | refine WC_seq ?_ | refine WC_block ?_ | refine WC_region ?_
  (apply WO_mv (hn := rfl); exact lk; apply WO_b1 (hn := rfl) (hb := rfl); exact lk; exact nk)
  apply WO_mk (hn := rfl)
  exact lk
  exact lk
  · exact mk_msl ty34 (n := a.length) (by omega)
  (apply WO_as (hn := rfl); exact lk)
  refine WO_nil ?_; show WC E _ _ _; repeat first | refine WC_seq ?_ | refine WC_block ?_ | refine WC_region ?_
  (apply WO_as (hn := rfl); exact lk)
  refine WO_nil ?_; show WC E _ _ _; repeat first | refine WC_seq ?_ | refine WC_block ?_ | refine WC_region ?_
  (apply WO_mv (hn := rfl); exact lk; apply WO_b1 (hn := rfl) (hb := rfl); exact lk; exact nk; apply WO_bin (hn := rfl); exact lk; exact lk; exact bk; apply WO_as (hn := rfl); exact lk)
  refine WO_nil ?_; show WC E _ _ _; repeat first | refine WC_seq ?_ | refine WC_block ?_ | refine WC_region ?_
  refine WC_loop (fun j s => ∃ (tm : Tr PV) (me : PM) (c : List Nat) (rs : Nat), s = ⟨tm, 40, me, []⟩ ∧ tm.get 0 = some p ∧ tm.get 1 = some (.int .u64 (y : Int)) ∧ tm.get 8 = some (.int .i64 ((j : Int) - 1)) ∧ tm.get 6 = some (.msl 0 0 0 a.length 1) ∧ tm.get 7 = some (.int .u64 (rs : Int)) ∧
    me.get 0 = some (.cells (cu c) 0 false 68) ∧ c.length = a.length ∧ Ok c ∧ j ≤ a.length ∧ rs < y ∧ nv (a.drop j) = nv (c.drop j) * y + rs) a.length
    ⟨_, _, List.replicate a.length 0, 0, rfl, gk, gk, gk, gk, gk, one_get0, by simp, .replicate, by omega, by omega, by simp [nv]⟩ ?_
  rintro j s ⟨tm, me, c, rs, rfl, h0, h1, h8, h6, h7, hb, hc, hoc, hj, hrs, hv⟩
  repeat first | refine WC_seq ?_ | refine WC_block ?_ | refine WC_region ?_
  (apply WO_mv (hn := rfl); exact lk; apply WO_bin (hn := rfl); exact lk; exact lk; exact bk)
  refine WO_nil ?_; show WC E _ _ _; repeat first | refine WC_seq ?_ | refine WC_block ?_ | refine WC_region ?_
  apply WC_cond; (focus (apply condOf_t; (focus (first | (apply evo_t; (repeat (first | exact get_hit | assumption | refine get_miss rfl ?_ | fail)); done) | (exact rfl) | fail))))
  · intro hlt
    have hlt : j ≠ 0 := by have := of_decide_eq_true hlt; omega
    have hjj : (j : Int) - 1 = ((j - 1 : Nat) : Int) := by omega
    rw [hjj] at h8 ⊢
    obtain ⟨u, hu⟩ : ∃ u, a[j - 1]? = some u := ⟨_, List.getElem?_eq_getElem (by omega)⟩
    have hu2 : u < 4294967296 := ho.get hu
    have hq : (rs * 4294967296 + u) / y < 4294967296 := (Nat.div_lt_iff_lt_mul (by omega)).2 (by
      have := Nat.mul_le_mul_left 4294967296 (show rs + 1 ≤ y by omega)
      omega)
    refine WC_skip ?_
    show WC E _ _ _; repeat first | refine WC_seq ?_ | refine WC_block ?_ | refine WC_region ?_
    (apply WO_mv (hn := rfl); exact lk; apply WO_bin (hn := rfl); exact lk; exact lk; exact bk; apply WO_mv (hn := rfl); exact lk; apply WO_mv (hn := rfl); exact lk)
    apply WO_ia (hn := rfl)
    exact lk
    exact lk
    · exact ia_lim ty34 h (by omega)
    apply WO_ld (hn := rfl)
    exact lk
    · exact ld_lim ty68 hu
    (apply WO_cv (hn := rfl); exact lk; exact rfl; exact rfl; exact ck)
    apply WO_bin (hn := rfl)
    exact lk
    exact lk
    · have e := b_orU (K := E.ty 65) (cst := false) (a := rs * 2 ^ 32) (b := u) (by omega) (by omega)
      rw [or_hi hu2] at e
      rw [show rs * 2 ^ 32 % 18446744073709551616 = rs * 2 ^ 32 from Nat.mod_eq_of_lt (by omega)]
      exact e
    (apply WO_as (hn := rfl); exact lk)
    refine WO_nil ?_; show WC E _ _ _; repeat first | refine WC_seq ?_ | refine WC_block ?_ | refine WC_region ?_
    (apply WO_mv (hn := rfl); exact lk; apply WO_mv (hn := rfl); exact lk; apply WO_mv (hn := rfl); exact lk; apply WO_mv (hn := rfl); exact lk)
    apply WO_bin (hn := rfl)
    exact lk
    exact lk
    · exact b_quoU (by omega) hy0
    (apply WO_cv (hn := rfl); exact lk; exact rfl; exact rfl; exact ck)
    rw [show (rs * 4294967296 + u) / y % 4294967296 = (rs * 4294967296 + u) / y from Nat.mod_eq_of_lt hq]
    apply WO_ia (hn := rfl)
    exact lk
    exact lk
    · exact ia_msl ty34 (by omega)
    apply WO_st
    exact lk
    exact lk
    · rw [Nat.zero_add]; exact st_msl ty68 hb (by omega)
    refine WO_nil ?_; show WC E _ _ _; repeat first | refine WC_seq ?_ | refine WC_block ?_ | refine WC_region ?_
    (apply WO_mv (hn := rfl); exact lk; apply WO_mv (hn := rfl); exact lk)
    apply WO_bin (hn := rfl)
    exact lk
    exact lk
    · exact b_remU hy0
    (apply WO_as (hn := rfl); exact lk)
    refine WO_nil ?_; show WC E _ _ _; repeat first | refine WC_seq ?_ | refine WC_block ?_ | refine WC_region ?_
    (apply WO_mv (hn := rfl); exact lk; apply WO_bin (hn := rfl); exact lk; exact lk; exact bk; apply WO_as (hn := rfl); exact lk)
    refine WO_nil ?_
    refine ⟨j - 1, by omega, _, _, c.set (j - 1) ((rs * 4294967296 + u) / y), (rs * 4294967296 + u) % y, rfl, gk, gk, gk, gk, gk, by rw [PM.get_upd, if_pos rfl], by simpa using hc, hoc.set hq, by omega, Nat.mod_lt _ (by omega), ?_⟩
    have e1 := nv_drop hu
    have e2 := nv_drop (a := c.set (j - 1) ((rs * 4294967296 + u) / y)) (i := j - 1) (x := (rs * 4294967296 + u) / y) (List.getElem?_set_self (by omega))
    rw [show j - 1 + 1 = j by omega] at e1 e2
    rw [drop_set_of_lt (j := j) (by omega)] at e2
    rw [e1, e2, hv, BB_eq, Nat.add_mul, Nat.mul_assoc, Nat.mul_add]
    have := Nat.div_add_mod (rs * 4294967296 + u) y
    rw [Nat.mul_comm y] at this
    omega
  · intro hlt
    have hlt : j = 0 := by have := of_decide_eq_false hlt; omega
    subst hlt
    refine WC_exit ?_
    show WC E _ _ _; repeat first | refine WC_seq ?_ | refine WC_block ?_ | refine WC_region ?_
    (apply WO_mv (hn := rfl); exact lk)
    rw [List.drop_zero, List.drop_zero] at hv
    have e1 : nv a / y = nv c := by
      rw [hv, Nat.mul_comm, Nat.mul_add_div (by omega), Nat.div_eq_of_lt hrs, Nat.add_zero]
    have e2 : nv a % y = rs := by
      rw [hv, Nat.mul_comm, Nat.mul_add_mod, Nat.mod_eq_of_lt hrs]
    obtain ⟨r, hr1, hr2⟩ := r1_Trim (a := c) (.inr ⟨none, rfl⟩) hoc (by omega)
    obtain ⟨m', hm'⟩ := ev_msl (f := 24) rfl rfl rfl hb rfl hc.symm (hr2 _)
    apply WO_ca (hn := rfl) r m'
    · exact evs1 lk
    · exact hm'
    (apply WO_mv (hn := rfl); exact lk; apply WO_as (hn := rfl); exact lk; apply WO_as (hn := rfl); exact lk)
    refine WO_nil ?_
    show WC E _ _ _
    refine WC_ret (fin2 rfl ex_ret rfl gk gk ?_)
    rw [e1, e2]
    exact ⟨_, m', reify_t2 (Lim.flat hr1) rfl, r, rfl, hr1⟩

theorem r1_Shift1 {a : List Nat} {p : PV} (h : Lim a p) (ho : Ok a) (hl : a.length < 800000) : ∃ r, Lim (lm (2 * nv a)) r ∧ ∀ m, Ev E 64 [p, .int .i64 1] m r m := by
  obtain ⟨pA, hA, hp2⟩ := r1_Trim h ho (by omega)
  have hla : (lm (nv a)).length < 800000 := Nat.lt_of_le_of_lt (lm_le ho) hl
  generalize hx : nv a = x at *
  have hoA := ok_lm x
  have hxA := nv_lm x
  refine Ev_isoE rfl rfl rfl (flats2 h.flat rfl) (fn := Go.Proofs.Tryz.f64) rfl rfl rfl ?_
  show WC E _ ⟨(Tr.leaf.set 0 p).set 1 _, 88, _, _⟩ _
  generalize lm x = A at *
  repeat first | refine WC_seq ?_ | refine WC_block ?_ | refine WC_region ?_
  (apply WO_as (hn := rfl); exact lk)
  refine WO_nil ?_; show WC E _ _ _; repeat first | refine WC_seq ?_ | refine WC_block ?_ | refine WC_region ?_
  (apply WO_mv (hn := rfl); exact lk)
  apply WO_b2 (hn := rfl) (hb := rfl)
  exact lk
  exact lk
  · exact max_I (by omega)
  apply WO_b2 (hn := rfl) (hb := rfl)
  exact lk
  exact lk
  · exact min_I (by omega)
  (apply WO_as (hn := rfl); exact lk)
  refine WO_nil ?_; show WC E _ _ _; repeat first | refine WC_seq ?_ | refine WC_block ?_ | refine WC_region ?_
  (apply WO_mv (hn := rfl); exact lk)
  apply WO_ca (hn := rfl) pA PM.empty
  · exact evs1 lk
  · exact hp2 _
  (apply WO_as (hn := rfl); exact lk)
  refine WO_nil ?_; show WC E _ _ _; repeat first | refine WC_seq ?_ | refine WC_block ?_ | refine WC_region ?_
  (apply WO_mv (hn := rfl); exact lk; apply WO_bin (hn := rfl); exact lk; exact lk; exact bk)
  refine WO_nil ?_
  show WC E _ _ _
  apply WC_cond; (focus (apply condOf_t; (focus (first | (apply evo_t; (repeat (first | exact get_hit | assumption | refine get_miss rfl ?_ | fail)); done) | (exact rfl) | fail))))
  · intro hc
    exact absurd (of_decide_eq_true hc) (by decide)
  intro _
  refine WC_skip ?_
  show WC E _ _ _; repeat first | refine WC_seq ?_ | refine WC_block ?_ | refine WC_region ?_
  (apply WO_mv (hn := rfl); exact lk)
  apply WO_bin (hn := rfl)
  exact lk
  exact lk
  · exact b_quoI (a := 1) (b := 32) (by decide) (by decide)
  apply WO_mk (hn := rfl)
  exact lk
  exact lk
  · exact mk_msl ty34 (n := 0) (by decide)
  (apply WO_as (hn := rfl); exact lk)
  refine WO_nil ?_; show WC E _ _ _; repeat first | refine WC_seq ?_ | refine WC_block ?_ | refine WC_region ?_
  (apply WO_mv (hn := rfl); exact lk)
  apply WO_bin (hn := rfl)
  exact lk
  exact lk
  · exact b_remI (a := 1) (b := 32) (by decide)
  apply WO_cv (hn := rfl)
  exact lk
  · exact rfl
  · exact rfl
  · exact c_64 (a := 1 % 32) (by decide)
  rw [show (1 : Nat) % 32 = 1 from rfl]
  (apply WO_as (hn := rfl); exact lk)
  refine WO_nil ?_; show WC E _ _ _; repeat first | refine WC_seq ?_ | refine WC_block ?_ | refine WC_region ?_
  (apply WO_as (hn := rfl); exact lk)
  refine WO_nil ?_; show WC E _ _ _; repeat first | refine WC_seq ?_ | refine WC_block ?_ | refine WC_region ?_
  (apply WO_as (hn := rfl); exact lk)
  refine WO_nil ?_; show WC E _ _ _; repeat first | refine WC_seq ?_ | refine WC_block ?_ | refine WC_region ?_
  refine WC_loop (fun j s => ∃ (tm : Tr PV) (me : PM) (i lo : Nat) (c : List Nat) (v : PV), s = ⟨tm, 88, me, []⟩ ∧ tm.get 5 = some pA ∧ tm.get 11 = some (.int .u64 ((1 : Nat) : Int)) ∧ tm.get 13 = some (.int .i64 (i : Int)) ∧ tm.get 12 = some (.int .u64 (lo : Int)) ∧ tm.get 10 = some v ∧ App c me v ∧ c.length = i ∧ Ok c ∧ i ≤ A.length + 1 ∧ j = A.length + 1 - i ∧ lo ≤ 1 ∧ nv c + BB ^ i * lo = 2 * nv (A.take i)) (A.length + 1)
    ⟨_, _, 0, 0, [], .msl 0 0 0 0 1, rfl, gk, gk, gk, gk, gk, .inr ⟨0, 0, rfl, one_get0⟩, rfl, .nil, by omega, by omega, by omega, by simp [nv]⟩ ?_
  rintro j s ⟨tm, me, i, lo, c, v, rfl, g5, g11, g13, g12, g10, hAp, hc, hoc, hi, hj, hlo, hv⟩
  repeat first | refine WC_seq ?_ | refine WC_block ?_ | refine WC_region ?_
  (apply WO_mv (hn := rfl); exact lk; apply WO_mv (hn := rfl); exact lk; apply WO_b1 (hn := rfl) (hb := rfl); exact lk; exact nk; apply WO_bin (hn := rfl); exact lk; exact lk; exact bk; apply WO_bin (hn := rfl); exact lk; exact lk; exact bk)
  refine WO_nil ?_; show WC E _ _ _; repeat first | refine WC_seq ?_ | refine WC_block ?_ | refine WC_region ?_
  apply WC_cond; (focus (apply condOf_t; (focus (first | (apply evo_t; (repeat (first | exact get_hit | assumption | refine get_miss rfl ?_ | fail)); done) | (exact rfl) | fail))))
  · intro hlt
    have hlt : i < A.length + 1 := by have := of_decide_eq_true hlt; omega
    have hy2 : A[i]?.getD 0 < 4294967296 := by
      cases hw : A[i]? with
      | none => decide
      | some w => exact hoA.get hw
    have e1 := nv_take_getD A i
    have at1 := r1_at (i := i) hA hoA (by omega)
    generalize A[i]?.getD 0 = y at *
    have hsh : y * 2 ^ 1 % 18446744073709551616 = 2 * y := by omega
    have hor : 2 * y ||| lo = 2 * y + lo := (Nat.two_pow_add_eq_or_of_lt (i := 1) (b := lo) (by omega) y).symm
    refine WC_skip ?_
    show WC E _ _ _; repeat first | refine WC_seq ?_ | refine WC_block ?_ | refine WC_region ?_
    (apply WO_mv (hn := rfl); exact lk; apply WO_mv (hn := rfl); exact lk)
    apply WO_ca (hn := rfl) (.int .u64 (y : Int)) me
    · apply evs2
      exact lk
      exact lk
    · exact at1 me
    (apply WO_mv (hn := rfl); exact lk; apply WO_bin (hn := rfl); exact lk; exact lk; exact bk; apply WO_as (hn := rfl); exact lk)
    rw [hsh]
    refine WO_nil ?_; show WC E _ _ _; repeat first | refine WC_seq ?_ | refine WC_block ?_ | refine WC_region ?_
    (apply WO_mv (hn := rfl); exact lk; apply WO_mv (hn := rfl); exact lk; apply WO_mv (hn := rfl); exact lk)
    apply WO_bin (hn := rfl)
    exact lk
    exact lk
    · have e := b_orU (K := E.ty 65) (cst := false) (a := 2 * y) (b := lo) (by omega) (by omega)
      rw [hor] at e
      exact e
    (apply WO_cv (hn := rfl); exact lk; exact rfl; exact rfl; exact ck)
    apply WO_bs (hn := rfl)
    · apply evps1
      exact lk
    · exact rfl
    obtain ⟨w, m', k1, k2⟩ := app_one hAp (by omega) (x := (2 * y + lo) % 4294967296) (cp := some 1)
    apply WO_m2 (hn := rfl) (hb := rfl)
    exact lk
    exact lk
    · exact k1
    (apply WO_as (hn := rfl); exact lk)
    refine WO_nil ?_; show WC E _ _ _; repeat first | refine WC_seq ?_ | refine WC_block ?_ | refine WC_region ?_
    (apply WO_mv (hn := rfl); exact lk; apply WO_bin (hn := rfl); exact lk; exact lk; exact bk; apply WO_as (hn := rfl); exact lk)
    refine WO_nil ?_; show WC E _ _ _; repeat first | refine WC_seq ?_ | refine WC_block ?_ | refine WC_region ?_
    (apply WO_mv (hn := rfl); exact lk; apply WO_bin (hn := rfl); exact lk; exact lk; exact bk; apply WO_as (hn := rfl); exact lk)
    refine WO_nil ?_
    refine ⟨j - 1, by omega, _, _, i + 1, 2 * y / 2 ^ 32, _, w, rfl, gk, gk, gk, gk, gk, k2, by rw [List.length_append, hc]; rfl, hoc.append (.cons (Nat.mod_lt _ BB_pos) .nil), by omega, by omega, by omega, ?_⟩
    rw [nv_snoc, hc, e1]
    have e3 : BB ^ i * ((2 * y + lo) % 4294967296) + BB ^ (i + 1) * (2 * y / 2 ^ 32) = BB ^ i * lo + 2 * (BB ^ i * y) := by
      rw [Nat.pow_succ, Nat.mul_assoc, ← Nat.mul_add, Nat.mul_left_comm 2, ← Nat.mul_add]
      congr 1
      rw [BB_eq]; omega
    omega
  · intro hlt
    have hlt : i = A.length + 1 := by have := of_decide_eq_false hlt; omega
    subst hlt
    rw [nv_take_all (by omega), hxA] at hv
    have hlo0 : lo = 0 := by
      rcases Nat.le_one_iff_eq_zero_or_eq_one.1 hlo with h0 | h0
      · exact h0
      · subst h0
        have h1 := nv_lt hoA
        rw [hxA] at h1
        have h5 := Nat.mul_le_mul_left (BB ^ A.length) (show 2 ≤ BB by decide)
        rw [Nat.pow_succ, Nat.mul_one] at hv
        omega
    subst hlo0
    rw [Nat.mul_zero, Nat.add_zero] at hv
    refine WC_exit ?_
    show WC E _ _ _; repeat first | refine WC_seq ?_ | refine WC_block ?_ | refine WC_region ?_
    (apply WO_mv (hn := rfl); exact lk)
    have htr : ∃ r, Lim (lm (2 * x)) r ∧ ∃ m', Ev E 24 [v] me r m' := by
      rcases hAp with ⟨rfl, _⟩ | ⟨bb, g, rfl, hbb⟩
      · simp at hc
      · obtain ⟨r, hr1, hr2⟩ := r1_Trim (a := c) (.inr ⟨none, rfl⟩) hoc (by omega)
        rw [hv] at hr1
        exact ⟨r, hr1, ev_msl rfl rfl rfl hbb rfl rfl (hr2 me)⟩
    obtain ⟨r, hr1, m', hr2⟩ := htr
    apply WO_ca (hn := rfl) r m'
    · exact evs1 lk
    · exact hr2
    (apply WO_as (hn := rfl); exact lk)
    refine WO_nil ?_
    show WC E _ _ _
    refine WC_ret (fin1 rfl ex_ret rfl get_hit ?_)
    obtain ⟨q3, m3, h3, h4⟩ := Lim.rd hr1 m' 11
    exact ⟨q3, m3, h3, h4⟩
end Go.Ab.T
/- The document's answer: ref1.DivMod, Gcd. -/
open Go Go.Ab
namespace Go.Ab.T
set_option maxRecDepth 10000
set_option maxHeartbeats 2000000
set_option linter.unusedSimpArgs false
attribute [local irreducible] Tr.get Tr.set

theorem pow_BB (w : Nat) : BB ^ w = 2 ^ (32 * w) := by rw [show BB = 2 ^ 32 from rfl, ← Nat.pow_mul]
theorem bit_at {a : List Nat} {w s x : Nat} (ho : Ok a) (hx : a[w]? = some x) (hs : s ≤ 31) : (nv a / 2 ^ (32 * w + s)) % 2 = (x / 2 ^ s) % 2 := by
  have hw := (List.getElem?_eq_some_iff.1 hx).1
  have e1 := nv_split a w (by omega)
  have h1 := nv_lt (ho.take w)
  rw [List.length_take, Nat.min_eq_left (by omega)] at h1
  have e2 : nv a / BB ^ w = x + BB * nv (a.drop (w + 1)) := by
    rw [e1, Nat.add_mul_div_left _ _ (Nat.pow_pos BB_pos), Nat.div_eq_of_lt h1, Nat.zero_add, nv_drop hx]
  rw [Nat.pow_add, ← Nat.div_div_eq_div_mul, ← pow_BB, e2]
  have e3 : BB * nv (a.drop (w + 1)) = 2 ^ s * (2 * (2 ^ (31 - s) * nv (a.drop (w + 1)))) := by
    have : BB = 2 ^ s * (2 * 2 ^ (31 - s)) := by
      rw [← Nat.pow_succ', ← Nat.pow_add, show s + (31 - s).succ = 32 by omega]; rfl
    rw [this, Nat.mul_assoc, Nat.mul_assoc]
  rw [e3, Nat.add_mul_div_left _ _ (Nat.pow_pos (by decide)), Nat.add_mul_mod_self_left]
theorem or_bit {q : List Nat} {w s x Q : Nat} (ho : Ok q) (hx : q[w]? = some x) (hs : s ≤ 31) (hv : nv q = Q * 2 ^ (32 * w + s + 1)) : x ||| 2 ^ s = x + 2 ^ s := by
  have hw := (List.getElem?_eq_some_iff.1 hx).1
  have e1 := nv_split q w (by omega)
  have h1 := nv_lt (ho.take w)
  rw [List.length_take, Nat.min_eq_left (by omega)] at h1
  have e2 : nv q / BB ^ w = x + BB * nv (q.drop (w + 1)) := by
    rw [e1, Nat.add_mul_div_left _ _ (Nat.pow_pos BB_pos), Nat.div_eq_of_lt h1, Nat.zero_add, nv_drop hx]
  have e3 : nv q / BB ^ w = Q * 2 ^ (s + 1) := by
    rw [hv, pow_BB, show 32 * w + s + 1 = 32 * w + (s + 1) by omega, Nat.pow_add, Nat.mul_left_comm, Nat.mul_div_cancel_left _ (Nat.pow_pos (by decide))]
  have hx2 : x < BB := ho.get hx
  have e4 : x = (Q * 2 ^ (s + 1)) % BB := by
    rw [← e3, e2, Nat.add_mul_mod_self_left, Nat.mod_eq_of_lt hx2]
  have e5 : BB = 2 ^ (31 - s) * 2 ^ (s + 1) := by rw [← Nat.pow_add, show 31 - s + (s + 1) = 32 by omega]; rfl
  rw [e5, Nat.mul_mod_mul_right, Nat.mul_comm] at e4
  rw [e4]
  exact (Nat.two_pow_add_eq_or_of_lt (i := s + 1) (b := 2 ^ s) (Nat.pow_lt_pow_right (by decide) (by omega)) _).symm
theorem half_step (N j : Nat) : N / 2 ^ j = 2 * (N / 2 ^ (j + 1)) + (N / 2 ^ j) % 2 := by
  rw [Nat.pow_succ, ← Nat.div_div_eq_div_mul]; omega

theorem r1_To' {a : List Nat} {p : PV} (h : Lim a p) (ho : Ok a) (hl : a.length < 900000) : ∃ (n : Nat) (o : Bool), (o = true → n = nv a) ∧ n < 18446744073709551616 ∧ ∀ m, Ev E 62 [p] m (.tup [.int .u64 (n : Int), .bool o]) m := by
  have hT := r1_To h ho hl
  by_cases hc : (lm (nv a)).length ≤ 2
  · refine ⟨nv a, true, fun _ => rfl, lm_length.1 hc, fun m => ?_⟩
    have := hT m
    rwa [if_pos hc] at this
  · refine ⟨0, false, nofun, by decide, fun m => ?_⟩
    have := hT m
    rwa [if_neg hc] at this

theorem b_shl32 {K : Option TI} {cst : Bool} {a n : Nat} (h : n ≤ 32) : bin2 K cst .shl (.int .u32 (a : Int)) (.int .u64 (n : Int)) = some (.int .u32 ((a * 2 ^ n % 4294967296 : Nat) : Int)) := by
  show some (PV.int .u32 (IntKind.u32.wrap ((a : Int) * 2 ^ Nat.min n 32))) = _
  have e : Nat.min n 32 = n := Nat.min_eq_left h
  rw [e]
  have : (a : Int) * (2 : Int) ^ n = ((a * 2 ^ n : Nat) : Int) := by simp
  rw [this, wrapU32]

theorem r1_DivMod {a b : List Nat} {p q : PV} (h : Lim a p) (h' : Lim b q) (ho : Ok a) (ho' : Ok b) (hl : a.length < 300000) (hl' : b.length < 300000) (hy0 : nv b ≠ 0) :
    ∃ r1 r2, Lim (lm (nv a / nv b)) r1 ∧ Lim (lm (nv a % nv b)) r2 ∧ ∀ m, Ev E 30 [p, q] m (.tup [r1, r2, .bool true]) m := by
  suffices hh : ∃ v, (∃ r1 r2, v = .tup [r1, r2, .bool true] ∧ Lim (lm (nv a / nv b)) r1 ∧ Lim (lm (nv a % nv b)) r2) ∧ ∀ m, Ev E 30 [p, q] m v m by
    obtain ⟨v, ⟨r1, r2, rfl, k1, k2⟩, k3⟩ := hh
    exact ⟨r1, r2, k1, k2, k3⟩
  obtain ⟨pB, hB, hq2⟩ := r1_Trim h' ho' (by omega)
  have hlb : (lm (nv b)).length ≠ 0 := fun e => hy0 (lm_nil.1 (List.length_eq_zero_iff.1 e))
  have hlb2 : (lm (nv b)).length < 300000 := Nat.lt_of_le_of_lt (lm_le ho') hl'
  obtain ⟨n1, o1, t1, t2, t3⟩ := r1_To' h ho (by omega)
  obtain ⟨n2, o2, u1, u2, u3⟩ := r1_To' h' ho' (by omega)
  refine Ev_isoE rfl rfl rfl (flats2 h.flat h'.flat) (fn := Go.Proofs.Tryz.f30) rfl rfl rfl ?_
  show WC E _ ⟨(Tr.leaf.set 0 p).set 1 q, 111, _, _⟩ _
  repeat first | refine WC_seq ?_ | refine WC_block ?_ | refine WC_region ?_
  (apply WO_as (hn := rfl); exact lk; apply WO_as (hn := rfl); exact lk; apply WO_as (hn := rfl); exact lk)
  refine WO_nil ?_; show WC E _ _ _; repeat first | refine WC_seq ?_ | refine WC_block ?_ | refine WC_region ?_
  (apply WO_mv (hn := rfl); exact lk)
  apply WO_ca (hn := rfl) pB PM.empty
  · exact evs1 lk
  · exact hq2 _
  (apply WO_b1 (hn := rfl) (hb := rfl); exact lk; exact nk; apply WO_bin (hn := rfl); exact lk; exact lk; exact bk)
  refine WO_nil ?_
  show WC E _ _ _
  apply WC_cond; (focus (apply condOf_t; (focus (first | (apply evo_t; (repeat (first | exact get_hit | assumption | refine get_miss rfl ?_ | fail)); done) | (exact rfl) | fail))))
  · intro hc
    exact absurd (of_decide_eq_true hc) (by omega)
  intro _
  refine WC_skip ?_
  show WC E _ _ _; repeat first | refine WC_seq ?_ | refine WC_block ?_ | refine WC_region ?_
  (apply WO_mv (hn := rfl); exact lk)
  apply WO_ca (hn := rfl) (.tup [.int .u64 (n1 : Int), .bool o1]) PM.empty
  · exact evs1 lk
  · exact t3 _
  (apply WO_mv (hn := rfl); exact lk; apply WO_ex (hn := rfl); exact lk; exact rfl; apply WO_ex (hn := rfl); exact lk; exact rfl; apply WO_as (hn := rfl); exact lk; apply WO_as (hn := rfl); exact lk)
  refine WO_nil ?_; show WC E _ _ _; repeat first | refine WC_seq ?_ | refine WC_block ?_ | refine WC_region ?_
  (apply WO_mv (hn := rfl); exact lk)
  apply WO_ca (hn := rfl) (.tup [.int .u64 (n2 : Int), .bool o2]) PM.empty
  · exact evs1 lk
  · exact u3 _
  (apply WO_mv (hn := rfl); exact lk; apply WO_ex (hn := rfl); exact lk; exact rfl; apply WO_ex (hn := rfl); exact lk; exact rfl; apply WO_as (hn := rfl); exact lk; apply WO_as (hn := rfl); exact lk)
  refine WO_nil ?_; show WC E _ _ _; repeat first | refine WC_seq ?_ | refine WC_block ?_ | refine WC_region ?_
  refine WO.mono (Q := fun s' => ∃ tm, s' = ⟨tm, 111, .empty, []⟩ ∧ tm.get 0 = some p ∧ tm.get 1 = some q ∧ tm.get 7 = some (.int .u64 (n1 : Int)) ∧ tm.get 9 = some (.int .u64 (n2 : Int)) ∧ tm.get 10 = some (.bool o2) ∧ tm.get 33 = some (.bool (o1 && o2))) ?_ ?_
  · cases o1
    · (apply WO_mv (hn := rfl); exact lk; apply WO_mv (hn := rfl); exact lk; apply WO_gf; exact uk; exact rfl)
      apply WO_pkf (hn := rfl)
      exact lk
      · exact rfl
      exact lk
      exact WO_nil ⟨_, rfl, gk, gk, gk, gk, gk, get_hit⟩
    · (apply WO_mv (hn := rfl); exact lk; apply WO_mv (hn := rfl); exact lk; apply WO_gt; exact uk; apply WO_mv (hn := rfl); exact lk)
      apply WO_pkt (hn := rfl)
      exact lk
      · exact rfl
      exact lk
      exact WO_nil ⟨_, rfl, gk, gk, gk, gk, gk, get_hit⟩
  rintro _ ⟨tm, rfl, g0, g1, g7, g9, g10, g33⟩
  show WC E _ _ _
  apply WC_cond; (focus (apply condOf_t; (focus (first | (apply evo_t; (repeat (first | exact get_hit | assumption | refine get_miss rfl ?_ | fail)); done) | (exact rfl) | fail))))
  · intro hoo
    obtain ⟨rfl, rfl⟩ := and_t hoo
    have hn1 := t1 rfl
    have hn2 := u1 rfl
    subst hn1; subst hn2
    obtain ⟨r1, e1, e2⟩ := r1_Of (n := nv a / nv b) (Nat.lt_of_le_of_lt (Nat.div_le_self _ _) t2)
    obtain ⟨r2, e3, e4⟩ := r1_Of (n := nv a % nv b) (Nat.lt_of_le_of_lt (Nat.mod_le _ _) t2)
    repeat first | refine WC_seq ?_ | refine WC_block ?_ | refine WC_region ?_
    (apply WC_draw; (focus exact rfl))
    (apply WD_mv (hn := rfl); exact lk; apply WD_mv (hn := rfl); exact lk)
    apply WD_bin (hn := rfl)
    exact lk
    exact lk
    · exact b_quoU t2 hy0
    apply WD_pu (hn := rfl)
    · exact evs1 lk
    · exact e2 _
    · exact rfl
    (apply WD_mv (hn := rfl); exact lk; apply WD_mv (hn := rfl); exact lk)
    apply WD_bin (hn := rfl)
    exact lk
    exact lk
    · exact b_remU hy0
    apply WD_pu (hn := rfl)
    · exact evs1 lk
    · exact e4 _
    · exact rfl
    (apply WD_as (hn := rfl); exact lk; apply WD_as (hn := rfl); exact lk; apply WD_as (hn := rfl); exact lk)
    refine WD_nil ⟨rfl, ?_⟩
    show WC E _ _ _
    refine WC_ret ?_
    show BodyQ _ _ _ _ _
    refine fin3 rfl ex_ret rfl gk gk gk ?_
    exact ⟨_, PM.empty, reify_t3 (Lim.flat e1) (Lim.flat e3) rfl, r1, r2, rfl, e1, e3⟩
  intro _
  refine WC_skip ?_
  show WC E _ _ _
  refine WC_seq (WC_seq (WC_region ?_))
  refine WO.mono (Q := fun s' => ∃ tm, s' = ⟨tm, 111, .empty, []⟩ ∧ tm.get 0 = some p ∧ tm.get 1 = some q ∧ tm.get 9 = some (.int .u64 (n2 : Int)) ∧ tm.get 46 = some (.bool (o2 && decide ((n2 : Int) < 4294967296)))) ?_ ?_
  · cases o2
    · (apply WO_mv (hn := rfl); exact lk; apply WO_mv (hn := rfl); exact lk; apply WO_gf; exact uk; exact rfl; apply WO_gf; exact uk; exact rfl)
      apply WO_pkf (hn := rfl)
      exact lk
      · exact rfl
      exact lk
      exact WO_nil ⟨_, rfl, gk, gk, gk, get_hit⟩
    · (apply WO_mv (hn := rfl); exact lk; apply WO_mv (hn := rfl); exact lk; apply WO_gt; exact uk; apply WO_mv (hn := rfl); exact lk; apply WO_gt; exact uk; apply WO_bin (hn := rfl); exact lk; exact lk; exact bk)
      apply WO_pkt (hn := rfl)
      exact lk
      · exact rfl
      exact lk
      exact WO_nil ⟨_, rfl, gk, gk, gk, by rw [Bool.true_and]; exact get_hit⟩
  clear g0 g1 g7 g9 g10 g33
  rintro _ ⟨tm, rfl, g0, g1, g9, g46⟩
  show WC E _ _ _
  apply WC_cond; (focus (apply condOf_t; (focus (first | (apply evo_t; (repeat (first | exact get_hit | assumption | refine get_miss rfl ?_ | fail)); done) | (exact rfl) | fail))))
  · intro hoo
    have hlt : n2 < 4294967296 := by have := of_decide_eq_true (and_t hoo).2; omega
    have hn2 := u1 (and_t hoo).1
    clear hoo g46
    subst hn2
    obtain ⟨r1, e1, e2⟩ := r1_small h ho (by omega) hy0 hlt
    obtain ⟨r2, e3, e4⟩ := r1_Of (n := nv a % nv b) (by have := Nat.mod_lt (nv a) (show 0 < nv b by omega); omega)
    repeat first | refine WC_seq ?_ | refine WC_block ?_ | refine WC_region ?_
    (apply WO_mv (hn := rfl); exact lk; apply WO_mv (hn := rfl); exact lk)
    apply WO_ca (hn := rfl) (.tup [r1, .int .u64 ((nv a % nv b : Nat) : Int)]) PM.empty
    · apply evs2
      exact lk
      exact lk
    · exact e2 _
    (apply WO_mv (hn := rfl); exact lk; apply WO_ex (hn := rfl); exact lk; exact rfl; apply WO_ex (hn := rfl); exact lk; exact rfl; apply WO_as (hn := rfl); exact lk; apply WO_as (hn := rfl); exact lk)
    refine WO_nil ?_; show WC E _ _ _; repeat first | refine WC_seq ?_ | refine WC_block ?_ | refine WC_region ?_
    (apply WO_mv (hn := rfl); exact lk; apply WO_mv (hn := rfl); exact lk)
    apply WO_ca (hn := rfl) r2 PM.empty
    · exact evs1 lk
    · exact e4 _
    (apply WO_as (hn := rfl); exact lk; apply WO_as (hn := rfl); exact lk; apply WO_as (hn := rfl); exact lk)
    refine WO_nil ?_
    show WC E _ _ _
    refine WC_ret ?_
    show BodyQ _ _ _ _ _
    refine fin3 rfl ex_ret rfl gk gk gk ?_
    exact ⟨_, PM.empty, reify_t3 (Lim.flat e1) (Lim.flat e3) rfl, r1, r2, rfl, e1, e3⟩
  intro _
  refine WC_skip ?_
  clear g46 t1 t2 t3 u1 u2 u3
  show WC E _ _ _; repeat first | refine WC_seq ?_ | refine WC_block ?_ | refine WC_region ?_
  (apply WO_mv (hn := rfl); exact lk; apply WO_b1 (hn := rfl) (hb := rfl); exact lk; exact nk)
  apply WO_mk (hn := rfl)
  exact lk
  exact lk
  · exact mk_msl ty34 (n := a.length) (by omega)
  (apply WO_as (hn := rfl); exact lk)
  refine WO_nil ?_; show WC E _ _ _; repeat first | refine WC_seq ?_ | refine WC_block ?_ | refine WC_region ?_
  (apply WO_as (hn := rfl); exact lk)
  refine WO_nil ?_; show WC E _ _ _; repeat first | refine WC_seq ?_ | refine WC_block ?_ | refine WC_region ?_
  (apply WO_mv (hn := rfl); exact lk; apply WO_b1 (hn := rfl) (hb := rfl); exact lk; exact nk)
  apply WO_bin (hn := rfl)
  · exact rfl
  exact lk
  · exact b_mulI (a := 32) (by omega) (by omega)
  (apply WO_bin (hn := rfl); exact lk; exact lk; exact bk; apply WO_as (hn := rfl); exact lk)
  refine WO_nil ?_; show WC E _ _ _; repeat first | refine WC_seq ?_ | refine WC_block ?_ | refine WC_region ?_
  have hstart : nv a / 2 ^ (32 * a.length) = 0 := by rw [← pow_BB]; exact Nat.div_eq_of_lt (nv_lt ho)
  refine WC_loop (fun j s => ∃ (tm : Tr PV) (me : PM) (R Q : Nat) (c : List Nat) (pr : PV), s = ⟨tm, 111, me, []⟩ ∧ tm.get 0 = some p ∧ tm.get 1 = some q ∧ tm.get 13 = some (.msl 0 0 0 a.length 1) ∧ tm.get 14 = some pr ∧ tm.get 15 = some (.int .i64 ((j : Int) - 1)) ∧
    me.get 0 = some (.cells (cu c) 0 false 68) ∧ c.length = a.length ∧ Ok c ∧ j ≤ 32 * a.length ∧ Lim (lm R) pr ∧ R < nv b ∧ nv a / 2 ^ j = nv b * Q + R ∧ nv c = Q * 2 ^ j) (32 * a.length)
    ⟨_, _, 0, 0, List.replicate a.length 0, .nils, rfl, gk, gk, gk, gk, by rw [show ((32 * a.length : Nat) : Int) - 1 = 32 * (a.length : Int) - 1 by omega]; (repeat (first | exact get_hit | assumption | refine get_miss rfl ?_ | fail)), one_get0, by simp, .replicate, Nat.le_refl _, .inl ⟨lm_zero, rfl⟩, by omega, by rw [hstart]; simp, by simp [nv_replicate]⟩ ?_
  clear g0 g1 g9
  rintro j s ⟨tm, me, R, Q, c, pr, rfl, g0, g1, g13, g14, g15, b0, hc, hoc, hj, hR, hRlt, hdiv, hcv⟩
  repeat first | refine WC_seq ?_ | refine WC_block ?_ | refine WC_region ?_
  (apply WO_mv (hn := rfl); exact lk; apply WO_bin (hn := rfl); exact lk; exact lk; exact bk)
  refine WO_nil ?_; show WC E _ _ _; repeat first | refine WC_seq ?_ | refine WC_block ?_ | refine WC_region ?_
  apply WC_cond; (focus (apply condOf_t; (focus (first | (apply evo_t; (repeat (first | exact get_hit | assumption | refine get_miss rfl ?_ | fail)); done) | (exact rfl) | fail))))
  · intro hlt
    have hlt : j ≠ 0 := by have := of_decide_eq_true hlt; omega
    obtain ⟨i, rfl⟩ : ∃ i, j = i + 1 := ⟨j - 1, by omega⟩
    rw [show ((i + 1 : Nat) : Int) - 1 = (i : Int) by omega] at g15 ⊢
    have hw : i / 32 < a.length := by omega
    have hs : i % 32 ≤ 31 := by omega
    have h2s : 2 ^ (i % 32) < 4294967296 := Nat.pow_lt_pow_right (a := 2) (m := i % 32) (n := 32) (by decide) (by omega)
    have his : 32 * (i / 32) + i % 32 = i := Nat.div_add_mod i 32
    obtain ⟨x, hx⟩ : ∃ x, a[i / 32]? = some x := ⟨_, List.getElem?_eq_getElem hw⟩
    have hx2 : x < 4294967296 := ho.get hx
    obtain ⟨z, hz⟩ : ∃ z, c[i / 32]? = some z := ⟨_, List.getElem?_eq_getElem (by omega)⟩
    have hz2 : z < 4294967296 := hoc.get hz
    have hbit := bit_at ho hx hs
    rw [his] at hbit
    have horb := or_bit (Q := Q) hoc hz hs (by rw [his]; exact hcv)
    have hhalf := half_step (nv a) i
    rw [hdiv, hbit] at hhalf
    have hset := nv_set (v := z + 2 ^ (i % 32)) hz
    have hpow : BB ^ (i / 32) * 2 ^ (i % 32) = 2 ^ i := by rw [pow_BB, ← Nat.pow_add, his]
    have hsum : z + 2 ^ (i % 32) < 4294967296 := by
      rw [← horb]; exact Nat.or_lt_two_pow (n := 32) hz2 h2s
    have hlR : (lm R).length < 300000 := Nat.lt_of_le_of_lt (lm_mono (Nat.le_of_lt hRlt)) hlb2
    obtain ⟨p1, f1, f2⟩ := r1_Shift1 hR (ok_lm R) (by omega)
    rw [nv_lm] at f1
    have hl2 : (lm (2 * R)).length ≤ 300000 := by have := lm_add_len (x := R) (y := R) (L := 299999) (by omega) (by omega); rwa [← Nat.two_mul] at this
    have hone : Lim [1] (.vsl [.int .u32 1] 1 (some 1)) := .inr ⟨some 1, rfl⟩
    have hoone : Ok [1] := .cons (by decide) .nil
    obtain ⟨p2, f3, f4⟩ := r1_Add f1 hone (ok_lm _) hoone (by omega) (by decide)
    rw [nv_lm, show nv [1] = 1 from rfl] at f3
    refine WC_skip ?_
    show WC E _ _ _; repeat first | refine WC_seq ?_ | refine WC_block ?_ | refine WC_region ?_
    (apply WO_mv (hn := rfl); exact lk)
    apply WO_ca (hn := rfl) p1 me
    · apply evs2
      exact lk
      exact lk
    · exact f2 me
    (apply WO_as (hn := rfl); exact lk)
    refine WO_nil ?_; show WC E _ _ _; repeat first | refine WC_seq ?_ | refine WC_block ?_ | refine WC_region ?_
    (apply WO_mv (hn := rfl); exact lk; apply WO_mv (hn := rfl); exact lk)
    apply WO_bin (hn := rfl)
    exact lk
    exact lk
    · exact b_quoI (b := 32) (by omega) (by decide)
    apply WO_ia (hn := rfl)
    exact lk
    exact lk
    · exact ia_lim ty34 h hw
    apply WO_ld (hn := rfl)
    exact lk
    · exact ld_lim ty68 hx
    (apply WO_mv (hn := rfl); exact lk)
    apply WO_bin (hn := rfl)
    exact lk
    exact lk
    · exact b_remI (b := 32) (by decide)
    (apply WO_cv (hn := rfl); exact lk; exact rfl; exact rfl; exact ck)
    apply WO_bin (hn := rfl)
    exact lk
    exact lk
    · exact b_shrU (by show i % 32 ≤ 32; omega)
    apply WO_bin (hn := rfl)
    exact lk
    exact lk
    · exact b_and32 (b := 1) (Nat.lt_of_le_of_lt (Nat.div_le_self _ _) hx2) (by decide)
    rw [Nat.and_one_is_mod]
    generalize hbb : x / 2 ^ (i % 32) % 2 = bit at *
    have hbit1 : bit ≤ 1 := by omega
    (apply WO_bin (hn := rfl); exact lk; exact lk; exact bk)
    refine WO_nil ?_
    show WC E _ _ _
    refine WC.mono (Q := fun xx s' => xx = .nrm ∧ ∃ tm pr', s' = ⟨tm, 111, me, []⟩ ∧ tm.get 0 = some p ∧ tm.get 1 = some q ∧ tm.get 13 = some (.msl 0 0 0 a.length 1) ∧ tm.get 14 = some pr' ∧ tm.get 15 = some (.int .i64 (i : Int)) ∧ Lim (lm (2 * R + bit)) pr') ?_ ?_
    · apply WC_cond; (focus (apply condOf_t; (focus (first | (apply evo_t; (repeat (first | exact get_hit | assumption | refine get_miss rfl ?_ | fail)); done) | (exact rfl) | fail))))
      · intro hb1
        have hb1 : bit = 1 := by have := of_decide_eq_true hb1; omega
        repeat first | refine WC_seq ?_ | refine WC_block ?_ | refine WC_region ?_
        (apply WO_mv (hn := rfl); exact lk)
        apply WO_bs (hn := rfl)
        · exact evps1 rfl
        · exact rfl
        apply WO_ca (hn := rfl) p2 me
        · apply evs2
          exact lk
          exact lk
        · exact f4 me
        (apply WO_as (hn := rfl); exact lk)
        exact WO_nil ⟨rfl, _, p2, rfl, gk, gk, gk, gk, gk, by rw [hb1]; exact f3⟩
      · intro hb1
        have hb1 : bit = 0 := by have := of_decide_eq_false hb1; omega
        exact WC_skip ⟨rfl, _, p1, rfl, gk, gk, gk, gk, gk, by rw [hb1]; exact f1⟩
    clear g0 g1 g13 g14 g15
    rintro _ _ ⟨rfl, tm, pr', rfl, g0, g1, g13, g14, g15, hR2⟩
    have hl3 : (lm (2 * R + bit)).length < 400000 := by have := lm_add_len (x := 2 * R) (y := bit) (L := 300000) hl2 (by have := lm_mono hbit1; rw [lm_one] at this; simp at this; omega); omega
    have hcmp := r1_Cmp hR2 h' (ok_lm _) ho' (by omega) (by omega)
    rw [nv_lm] at hcmp
    show WC E _ _ _
    repeat first | refine WC_seq ?_ | refine WC_block ?_ | refine WC_region ?_
    (apply WO_mv (hn := rfl); exact lk; apply WO_mv (hn := rfl); exact lk)
    apply WO_ca (hn := rfl) (.int .i64 (cmpI (2 * R + bit) (nv b))) me
    · apply evs2
      exact lk
      exact lk
    · exact hcmp me
    (apply WO_bin (hn := rfl); exact lk; exact lk; exact bk)
    refine WO_nil ?_
    show WC E _ _ _
    refine WC.mono (Q := fun xx s' => xx = .nrm ∧ ∃ tm pr' me' c' R' Q', s' = ⟨tm, 111, me', []⟩ ∧ tm.get 0 = some p ∧ tm.get 1 = some q ∧ tm.get 13 = some (.msl 0 0 0 a.length 1) ∧ tm.get 14 = some pr' ∧ tm.get 15 = some (.int .i64 (i : Int)) ∧ me'.get 0 = some (.cells (cu c') 0 false 68) ∧ c'.length = a.length ∧ Ok c' ∧ Lim (lm R') pr' ∧ R' < nv b ∧ nv a / 2 ^ i = nv b * Q' + R' ∧ nv c' = Q' * 2 ^ i) ?_ ?_
    · apply WC_cond; (focus (apply condOf_t; (focus (first | (apply evo_t; (repeat (first | exact get_hit | assumption | refine get_miss rfl ?_ | fail)); done) | (exact rfl) | fail))))
      · intro hge
        have hge : nv b ≤ 2 * R + bit := by
          refine Nat.le_of_not_lt fun hh => ?_
          have := of_decide_eq_true hge
          unfold cmpI at this
          rw [if_pos hh] at this
          omega
        obtain ⟨p3, f5, f6⟩ := r1_Sub hR2 h' (ok_lm _) ho' (by omega) (by omega) (by rw [nv_lm]; exact hge)
        rw [nv_lm] at f5
        repeat first | refine WC_seq ?_ | refine WC_block ?_ | refine WC_region ?_
        (apply WO_mv (hn := rfl); exact lk; apply WO_mv (hn := rfl); exact lk)
        apply WO_ca (hn := rfl) (.tup [p3, .bool true]) me
        · apply evs2
          exact lk
          exact lk
        · exact f6 me
        (apply WO_mv (hn := rfl); exact lk; apply WO_ex (hn := rfl); exact lk; exact rfl; apply WO_ex (hn := rfl); exact lk; exact rfl; apply WO_as (hn := rfl); exact lk)
        refine WO_nil ?_; show WC E _ _ _; repeat first | refine WC_seq ?_ | refine WC_block ?_ | refine WC_region ?_
        (apply WO_mv (hn := rfl); exact lk; apply WO_mv (hn := rfl); exact lk)
        apply WO_bin (hn := rfl)
        exact lk
        exact lk
        · exact b_quoI (b := 32) (by omega) (by decide)
        (apply WO_mv (hn := rfl); exact lk; apply WO_mv (hn := rfl); exact lk)
        apply WO_bin (hn := rfl)
        exact lk
        exact lk
        · exact b_quoI (b := 32) (by omega) (by decide)
        apply WO_ia (hn := rfl)
        exact lk
        exact lk
        · exact ia_msl ty34 hw
        apply WO_ld (hn := rfl)
        exact lk
        · rw [Nat.zero_add]; exact ld_msl ty68 b0 hz
        (apply WO_mv (hn := rfl); exact lk)
        apply WO_bin (hn := rfl)
        exact lk
        exact lk
        · exact b_remI (b := 32) (by decide)
        (apply WO_cv (hn := rfl); exact lk; exact rfl; exact rfl; exact ck)
        apply WO_bin (hn := rfl)
        · exact rfl
        exact lk
        · have e := b_shl32 (K := E.ty 68) (cst := true) (a := 1) (n := i % 32) (by omega)
          rw [Nat.one_mul, Nat.mod_eq_of_lt h2s] at e
          exact e
        apply WO_bin (hn := rfl)
        exact lk
        exact lk
        · have e := b_or32 (K := E.ty 68) (cst := false) (a := z) (b := 2 ^ (i % 32)) hz2 h2s
          rw [horb] at e
          exact e
        apply WO_ia (hn := rfl)
        exact lk
        exact lk
        · exact ia_msl ty34 hw
        apply WO_st
        exact lk
        exact lk
        · rw [Nat.zero_add]; exact st_msl ty68 b0 (by omega)
        refine WO_nil ⟨rfl, _, p3, _, c.set (i / 32) (z + 2 ^ (i % 32)), 2 * R + bit - nv b, 2 * Q + 1, rfl, gk, gk, gk, gk, gk, by rw [PM.get_upd, if_pos rfl], by simpa using hc, hoc.set hsum, f5, by omega, ?_, ?_⟩
        · rw [hhalf, Nat.mul_add (nv b), Nat.mul_left_comm (nv b) 2 Q, Nat.mul_one]
          omega
        · rw [Nat.add_mul, Nat.one_mul, Nat.mul_assoc 2, Nat.mul_comm 2, Nat.mul_assoc Q, ← Nat.pow_succ, ← hcv, ← hpow]
          rw [Nat.mul_add] at hset
          omega
      · intro hge
        have hge : 2 * R + bit < nv b := by
          refine Nat.lt_of_not_le fun hh => ?_
          have := of_decide_eq_false hge
          unfold cmpI at this
          rw [if_neg (by omega)] at this
          split at this <;> omega
        refine WC_skip ⟨rfl, _, pr', me, c, 2 * R + bit, 2 * Q, rfl, gk, gk, gk, gk, gk, b0, hc, hoc, hR2, hge, ?_, ?_⟩
        · rw [hhalf, Nat.mul_left_comm (nv b) 2 Q]
          omega
        · rw [hcv, Nat.mul_comm 2, Nat.mul_assoc Q, ← Nat.pow_succ']
    clear g0 g1 g13 g14 g15
    rintro _ _ ⟨rfl, tm, pr2, me2, c2, R2, Q2, rfl, g0, g1, g13, g14, g15, b1, hc2, hoc2, hR3, hR4, hdiv2, hcv2⟩
    show WC E _ _ _; repeat first | refine WC_seq ?_ | refine WC_block ?_ | refine WC_region ?_
    (apply WO_mv (hn := rfl); exact lk; apply WO_bin (hn := rfl); exact lk; exact lk; exact bk; apply WO_as (hn := rfl); exact lk)
    refine WO_nil ?_
    exact ⟨i, by omega, _, me2, R2, Q2, c2, pr2, rfl, gk, gk, gk, gk, gk, b1, hc2, hoc2, by omega, hR3, hR4, hdiv2, hcv2⟩
  · intro hlt
    have hlt : j = 0 := by have := of_decide_eq_false hlt; omega
    subst hlt
    rw [Nat.pow_zero, Nat.div_one] at hdiv
    rw [Nat.pow_zero, Nat.mul_one] at hcv
    have e1 : nv a / nv b = nv c := by rw [hdiv, hcv, Nat.mul_add_div (by omega), Nat.div_eq_of_lt hRlt, Nat.add_zero]
    have e2 : nv a % nv b = R := by rw [hdiv, Nat.mul_add_mod, Nat.mod_eq_of_lt hRlt]
    have hlR : (lm R).length < 300000 := Nat.lt_of_le_of_lt (lm_mono (Nat.le_of_lt hRlt)) hlb2
    obtain ⟨r1, k1, k2⟩ := r1_Trim (a := c) (.inr ⟨none, rfl⟩) hoc (by omega)
    obtain ⟨m', hm'⟩ := ev_msl (f := 24) rfl rfl rfl b0 rfl hc.symm (k2 _)
    obtain ⟨r2, k3, k4⟩ := r1_Trim hR (ok_lm R) (by omega)
    rw [nv_lm] at k3
    refine WC_exit ?_
    show WC E _ _ _; repeat first | refine WC_seq ?_ | refine WC_block ?_ | refine WC_region ?_
    (apply WO_mv (hn := rfl); exact lk)
    apply WO_ca (hn := rfl) r1 m'
    · exact evs1 lk
    · exact hm'
    (apply WO_mv (hn := rfl); exact lk)
    apply WO_ca (hn := rfl) r2 m'
    · exact evs1 lk
    · exact k4 m'
    (apply WO_as (hn := rfl); exact lk; apply WO_as (hn := rfl); exact lk; apply WO_as (hn := rfl); exact lk)
    refine WO_nil ?_
    show WC E _ _ _
    refine WC_ret ?_
    show BodyQ _ _ _ _ _
    refine fin3 rfl ex_ret rfl gk gk gk ?_
    rw [e1, e2]
    exact ⟨_, m', reify_t3 (Lim.flat k1) (Lim.flat k3) rfl, r1, r2, rfl, k1, k3⟩
end Go.Ab.T
