/- Naturals: Is, Trim, Of, Cmp, Add, Mul, bits, small, Sub answer right. -/
import Derived.Test.YtkidolggnmomcaaGreatDoorAd
import Derived.Test.YtkidolggnmomcaaGreatDoorTab
set_option linter.unusedVariables false
set_option linter.unusedSimpArgs false
/- Lookups in a walk, as default tactics: short names. -/
open Go Go.Ab
namespace Go.Ab.T
set_option linter.unusedSimpArgs false
attribute [local irreducible] Tr.get Tr.set
theorem ty34 : E.ty 34 = some ⟨.slice 68 1 4 (some [.int .u32 0]), 1, some [.nils]⟩ := rfl
theorem ty68 : E.ty 68 = some ⟨.int .u32, 1, some [.int .u32 0]⟩ := rfl
section
variable {E : Env}
theorem bk {K : Option TI} {c : Bool} {op : BinOp} {a b v : PV} (h : bin2 K c op a b = some v := by (first | exact b_lss | exact b_geq | exact b_gtr | exact b_leq | exact b_eql | exact b_neq | (refine b_addI ?_ ?_ <;> omega) | (refine b_subI ?_ ?_ <;> omega) | (refine b_addU ?_; omega) | (refine b_subU1 ?_ ?_ <;> omega) | (refine b_subU ?_ ?_ <;> omega) | (refine b_mulU ?_; omega) | (refine b_shrU ?_; decide) | (refine b_shlU ?_; decide) | fail)) : bin2 K c op a b = some v := h
theorem nk {bi : Builtin} {ts : List TypeId} {a v : PV} (h : pBuiltin E bi ts (some [a]) = some v := by (first | (apply len_lim ty34; assumption) | exact len_msl ty34 | exact rfl | fail)) : pBuiltin E bi ts (some [a]) = some v := h
theorem ck {s d : TK} {a : PV} {v : PV} (h : pConv s d (some a) = some v := by (first | (refine c_64 ?_; omega) | exact c_32 | exact c_5 | (refine c_i ?_; omega) | fail)) : pConv s d (some a) = some v := h
theorem uk {tm : Tr PV} {all : List Oper} {g : Option (Nat × Bool)} {r : Bool} (h : guardOk tm all g = some r := by (apply gOk; (focus exact rfl); (focus exact rfl); (focus ((repeat (first | exact get_hit | assumption | refine get_miss rfl ?_ | fail)); done)); (focus (first | rfl | (simp only [cond_true, cond_false, Bool.not_eq_true', Bool.not_eq_false', Bool.not_not, decide_eq_true_eq, decide_eq_false_iff_not]; omega) | fail)))) : guardOk tm all g = some r := h
theorem lk {tm : Tr PV} {x : Operand} {v : PV} (h : evo tm x = some v := by (first | (apply evo_t; (repeat (first | exact get_hit | assumption | refine get_miss rfl ?_ | fail)); done) | (exact rfl) | fail)) : evo tm x = some v := h
theorem gk {tm : Tr PV} {t : Nat} {v : PV} (h : tm.get t = some v := by ((repeat (first | exact get_hit | assumption | refine get_miss rfl ?_ | fail)); done)) : tm.get t = some v := h
end
end Go.Ab.T
/- What Go's functions on rows of limbs answer: nat.Is, trim, Trim, Of. -/
open Go Go.Ab
namespace Go.Ab.T
set_option maxRecDepth 10000
set_option maxHeartbeats 1000000
set_option linter.unusedSimpArgs false
attribute [local irreducible] Tr.get Tr.set

theorem nat_Is {a : List Nat} {p : PV} (h : Lim a p) (hl : a.length < 1000000) (m : PM) : Ev E 187 [p] m (.bool (Trm a)) m := by
  refine Ev_iso rfl rfl rfl (flats1 h.flat) (fn := Go.Proofs.Tryz.f187) rfl rfl rfl ?_ m
  show WC E _ ⟨Tr.leaf.set 0 p, 15, _, _⟩ _
  refine WC_seq (WC_region ?_)
  (apply WO_as (hn := rfl); exact lk)
  refine WO_nil ?_
  refine WC_seq (WC_region ?_)
  have fin : ∀ s : St, s.df = [] → s.tm.get 2 = some (.bool (Trm a)) → BodyQ E Go.Proofs.Tryz.f187 (fun v m => ∃ m2, reify 12 m v = some (.bool (Trm a), m2)) .ret s := fun s hd h2 => by
    refine ⟨nofun, by rw [hd]; rfl, [.bool (Trm a)], ?_, _, rfl⟩
    show resultsOf E s.tm s.me [.tmp 2] = _
    simp only [resultsOf, evo_t h2]
  by_cases h0 : a.length = 0
  · have hT : Trm a = true := by rw [List.length_eq_zero_iff.1 h0]; rfl
    (apply WO_mv (hn := rfl); exact lk; apply WO_b1 (hn := rfl) (hb := rfl); exact lk; exact nk; apply WO_bin (hn := rfl); exact lk; exact lk; exact bk; apply WO_mv (hn := rfl); exact lk; apply WO_gf; exact uk; exact rfl; apply WO_gf; exact uk; exact rfl; apply WO_gf; exact uk; exact rfl; apply WO_gf; exact uk; exact rfl; apply WO_gf; exact uk; exact rfl; apply WO_gf; exact uk; exact rfl; apply WO_gf; exact uk; exact rfl)
    apply WO_pk (hn := rfl)
    exact lk
    · rw [decide_eq_true (show (a.length : Int) = 0 by omega)]
      exact rfl
    (apply WO_as (hn := rfl); exact lk)
    exact WO_nil (WC_ret (fin _ rfl (by rw [hT]; exact get_hit)))
  · obtain ⟨x, hx⟩ : ∃ x, a[a.length - 1]? = some x := ⟨_, List.getElem?_eq_getElem (by omega)⟩
    (apply WO_mv (hn := rfl); exact lk; apply WO_b1 (hn := rfl) (hb := rfl); exact lk; exact nk; apply WO_bin (hn := rfl); exact lk; exact lk; exact bk; apply WO_mv (hn := rfl); exact lk; apply WO_gt; exact uk; apply WO_mv (hn := rfl); exact lk; apply WO_gt; exact uk; apply WO_mv (hn := rfl); exact lk; apply WO_gt; exact uk; apply WO_b1 (hn := rfl) (hb := rfl); exact lk; exact nk; apply WO_gt; exact uk; apply WO_bin (hn := rfl); exact lk; exact lk; exact bk; apply WO_gt; exact uk)
    apply WO_ia (hn := rfl)
    exact lk
    exact lk
    · have e : (a.length : Int) - 1 = ((a.length - 1 : Nat) : Int) := by omega
      rw [e]; exact ia_lim ty34 h (by omega)
    (apply WO_gt; exact uk)
    apply WO_ld (hn := rfl)
    exact lk
    · exact ld_lim ty68 hx
    (apply WO_gt; exact uk; apply WO_bin (hn := rfl); exact lk; exact lk; exact bk)
    apply WO_pk (hn := rfl)
    exact lk
    · rw [decide_eq_false (show ¬ (a.length : Int) = 0 by omega)]
      exact lk
    (apply WO_as (hn := rfl); exact lk)
    refine WO_nil (WC_ret (fin _ rfl ?_))
    rw [get_hit]
    have : Trm a = !decide ((x : Int) = 0) := by
      unfold Trm
      rw [List.getLast?_eq_getElem?, hx]
      show (!Nat.beq x 0) = _
      congr 1
      cases hb : Nat.beq x 0 with
      | true => have := beq_t hb; subst this; rfl
      | false => have := nbeq hb; exact (decide_eq_false (by omega)).symm
    rw [this]

/-- the end of a function that returns one temporary -/
theorem fin1 {fn : Func} {t : Nat} {v : PV} {R : PV → PM → Prop} (hr : fn.results.toList = [.tmp t]) {x : Ex} (hx : ∀ i, x ≠ .exit i) {s : St} (hd : s.df = []) (h : s.tm.get t = some v) (hR : R v s.me) : BodyQ E fn R x s := by
  refine ⟨hx, by rw [hd]; rfl, [v], ?_, hR⟩
  rw [hr]
  simp only [resultsOf, evo_t h]

theorem ex_ret : ∀ i, Ex.ret ≠ Ex.exit i := nofun
theorem sl_lim {t : Option TI} {e eb : Nat} {ez z : Option (List PV)} {sz : Nat} (ht : t = some ⟨.slice e 1 eb ez, sz, z⟩) {a : List Nat} {p : PV} (h : Lim a p) {k : Nat} (hk : k ≤ a.length) {kd : IntKind} : ∃ q, pSlice t (some p) (some none) (some (some (.int kd (k : Int)))) (some none) = some q ∧ Lim (a.take k) q := by
  subst ht
  rcases h with ⟨rfl, rfl⟩ | ⟨cp, rfl⟩
  · have : k = 0 := by simpa using hk
    subst this
    exact ⟨.nils, rfl, .inl ⟨rfl, rfl⟩⟩
  · have e : Nat.ble k a.length = true := Nat.ble_eq_true_of_le hk
    refine ⟨.vsl (cu (a.take k)) k cp, ?_, .inr ⟨cp, ?_⟩⟩
    · simp only [pSlice, bounds, hiOf, idxLe, loOf]
      show (match (match (bif Nat.ble k a.length then some k else none) with
        | some h => some (0, h)
        | none => none) with
        | some (l, h) => some (PV.vsl (((cu a).take (Nat.mul h 1)).drop (Nat.mul l 1)) (Nat.sub h l) (match cp with | some c => some (Nat.sub c l) | none => none))
        | none => none) = _
      rw [e]
      have e1 : Nat.mul k 1 = k := Nat.mul_one k
      have e2 : Nat.mul 0 1 = 0 := rfl
      have e3 : Nat.sub k 0 = k := rfl
      simp only [cond_true, e1, e2, e3, List.drop_zero, cu_take]
      cases cp <;> rfl
    · rw [List.length_take, Nat.min_eq_left hk]

theorem nat_trim {a : List Nat} {p : PV} (h : Lim a p) (ho : Ok a) (hl : a.length < 1000000) : ∃ q, Lim (lm (nv a)) q ∧ ∀ m, Ev E 176 [p] m q m := by
  refine Ev_isoE rfl rfl rfl (flats1 h.flat) (fn := Go.Proofs.Tryz.f176) rfl rfl rfl ?_
  show WC E _ ⟨Tr.leaf.set 0 p, 12, _, _⟩ _
  repeat first | refine WC_seq ?_ | refine WC_block ?_ | refine WC_region ?_
  (apply WO_as (hn := rfl); exact lk)
  refine WO_nil ?_; show WC E _ _ _; repeat first | refine WC_seq ?_ | refine WC_block ?_ | refine WC_region ?_
  refine WC_loop (fun j s => ∃ tm q, s = ⟨tm, 12, .empty, []⟩ ∧ tm.get 0 = some q ∧ Lim (a.take j) q ∧ j ≤ a.length ∧ nv (a.take j) = nv a) a.length ⟨_, p, rfl, get_miss rfl get_hit, by rw [List.take_length]; exact h, Nat.le_refl _, by rw [List.take_length]⟩ ?_
  rintro j s ⟨tm, q, rfl, h0, hq, hj, hv⟩
  repeat first | refine WC_seq ?_ | refine WC_block ?_ | refine WC_region ?_
  (apply WO_mv (hn := rfl); exact lk)
  apply WO_ca (hn := rfl) (PV.bool (Trm (a.take j))) PM.empty
  · exact evs1 lk
  · exact nat_Is hq (by rw [List.length_take]; omega) _
  (apply WO_un (hn := rfl); exact lk; exact u_not)
  refine WO_nil ?_; show WC E _ _ _; repeat first | refine WC_seq ?_ | refine WC_block ?_ | refine WC_region ?_
  apply WC_cond; (focus (apply condOf_t; (focus (first | (apply evo_t; (repeat (first | exact get_hit | assumption | refine get_miss rfl ?_ | fail)); done) | (exact rfl) | fail))))
  · -- not trimmed: one less
    intro hT
    refine WC_skip ?_
    show WC E _ _ _; repeat first | refine WC_seq ?_ | refine WC_block ?_ | refine WC_region ?_
    have hne : j ≠ 0 := fun e => by subst e; simp [Trm] at hT
    have hl2 : (a.take j).length = j := by rw [List.length_take]; omega
    (apply WO_mv (hn := rfl); exact lk; apply WO_mv (hn := rfl); exact lk; apply WO_b1 (hn := rfl) (hb := rfl); exact lk; exact nk; apply WO_bin (hn := rfl); exact lk; exact lk; exact bk)
    obtain ⟨q2, hq2, hq3⟩ := sl_lim ty34 hq (k := j - 1) (by omega) (kd := .i64)
    apply WO_sl (hn := rfl)
    exact lk
    · exact rfl
    · exact evopt_s lk
    · exact rfl
    · rw [hl2, show (j : Int) - 1 = ((j - 1 : Nat) : Int) by omega]; exact hq2
    (apply WO_as (hn := rfl); exact lk)
    refine WO_nil ?_
    refine ⟨j - 1, by omega, _, q2, rfl, get_hit, ?_, by omega, ?_⟩
    · rwa [List.take_take, Nat.min_eq_left (by omega)] at hq3
    · obtain ⟨x, hx⟩ : ∃ x, a[j - 1]? = some x := ⟨_, List.getElem?_eq_getElem (by omega)⟩
      have e := nv_take_succ hx
      rw [show j - 1 + 1 = j by omega] at e
      have : x = 0 := by
        have e2 : a.take j = a.take (j - 1) ++ [x] := by
          have := List.take_add_one (l := a) (i := j - 1)
          rw [show j - 1 + 1 = j by omega, hx] at this
          exact this
        rw [e2, trm_snoc] at hT
        cases hb : Nat.beq x 0 with
        | true => exact beq_t hb
        | false => rw [hb] at hT; cases hT
      subst this
      omega
  · intro hT
    refine WC_exit ?_
    show WC E _ _ _; repeat first | refine WC_seq ?_ | refine WC_block ?_ | refine WC_region ?_
    (apply WO_mv (hn := rfl); exact lk; apply WO_as (hn := rfl); exact lk)
    refine WO_nil (WC_ret ?_)
    refine fin1 rfl ex_ret rfl get_hit ⟨q, PM.empty, ?_, ?_⟩
    · rcases hq with ⟨_, rfl⟩ | ⟨cp, rfl⟩ <;> rfl
    · have : lm (nv a) = a.take j := by
        rw [← hv]
        exact lm_nv (ho.take j) (by cases hb : Trm (a.take j) with | true => rfl | false => rw [hb] at hT; cases hT)
      rw [this]; exact hq
end Go.Ab.T
/- slices.Clone of limbs, nat.Trim, nat.Of, nat.Cmp. -/
open Go Go.Ab
namespace Go.Ab.T
set_option maxRecDepth 10000
set_option maxHeartbeats 1000000
set_option linter.unusedSimpArgs false
attribute [local irreducible] Tr.get Tr.set

/-- a row that is read as a value -/
def Rd (a : List Nat) (m : PM) (v : PV) : Prop := ∀ d, ∃ q m2, reify (d + 1) m v = some (q, m2) ∧ Lim a q
theorem Lim.rd {a : List Nat} {p : PV} (h : Lim a p) (m : PM) : Rd a m p := fun d => by
  rcases h with ⟨rfl, rfl⟩ | ⟨cp, rfl⟩
  · exact ⟨.nils, m, rfl, .inl ⟨rfl, rfl⟩⟩
  · exact ⟨_, m, rfl, .inr ⟨cp, rfl⟩⟩

theorem clone32 {a : List Nat} {p : PV} (h : Lim a p) (hl : a.length < 1000000) (m : PM) : ∃ q m', Ev E 234 [p] m q m' ∧ Rd a m' q ∧ (∀ b, b < m.next → m'.get b = m.get b) := by
  refine Ev_rawE rfl rfl rfl (fn := Go.Proofs.Tryz.f234) rfl rfl rfl ?_
  show WC E _ ⟨Tr.leaf.set 0 p, 8, _, _⟩ _
  repeat first | refine WC_seq ?_ | refine WC_block ?_ | refine WC_region ?_
  (apply WO_as (hn := rfl); exact lk)
  refine WO_nil ?_; show WC E _ _ _; repeat first | refine WC_seq ?_ | refine WC_block ?_ | refine WC_region ?_
  rcases h with ⟨rfl, rfl⟩ | ⟨cp, rfl⟩
  · (apply WO_mv (hn := rfl); exact lk)
    apply WO_bin (hn := rfl)
    exact lk
    exact lk
    · exact rfl
    refine WO_nil ?_
    show WC E _ _ _
    repeat first | refine WC_seq ?_ | refine WC_block ?_ | refine WC_region ?_
    apply WC_cond; (focus (apply condOf_t; (focus (first | (apply evo_t; (repeat (first | exact get_hit | assumption | refine get_miss rfl ?_ | fail)); done) | (exact rfl) | fail))))
    · intro _
      repeat first | refine WC_seq ?_ | refine WC_block ?_ | refine WC_region ?_
      (apply WO_as (hn := rfl); exact lk)
      refine WO_nil ?_
      show WC E _ _ _
      refine WC_ret ?_
      show BodyQ _ _ _ _ _
      refine fin1 rfl ex_ret rfl get_hit ?_
      exact ⟨Lim.rd (.inl ⟨rfl, rfl⟩) m, fun _ _ => rfl⟩
    · intro h; cases h
  · (apply WO_mv (hn := rfl); exact lk)
    apply WO_bin (hn := rfl)
    exact lk
    exact lk
    · exact rfl
    refine WO_nil ?_
    show WC E _ _ _
    repeat first | refine WC_seq ?_ | refine WC_block ?_ | refine WC_region ?_
    apply WC_cond; (focus (apply condOf_t; (focus (first | (apply evo_t; (repeat (first | exact get_hit | assumption | refine get_miss rfl ?_ | fail)); done) | (exact rfl) | fail))))
    · intro h; cases h
    · intro _
      refine WC_skip ?_
      show WC E _ _ _; repeat first | refine WC_seq ?_ | refine WC_block ?_ | refine WC_region ?_
      apply WO_bs (hn := rfl)
      · exact rfl
      · exact rfl
      (apply WO_mv (hn := rfl); exact lk)
      have hap : ∃ q m', mBuiltin E m .append (#[34, 34] : Array TypeId).toList (some [.vsl [] 0 (some 0), .vsl (cu a) a.length cp]) = some (q, m') ∧ Rd a m' q ∧ (∀ b, b < m.next → m'.get b = m.get b) := by
        have e1 : Nat.beq (cu a).length (Nat.mul a.length 1) = true := by
          rw [cu_length, show Nat.mul a.length 1 = a.length from Nat.mul_one _]; exact Nat.beq_refl _
        have e2 : cellsOk (cu a) = true := cellsOk_cu
        have e3 : mBuiltin E m .append (#[34, 34] : Array TypeId).toList (some [.vsl [] 0 (some 0), .vsl (cu a) a.length cp]) = mAppend2 m 68 1 4 (.vsl [] 0 (some 0)) (cu a) a.length := by
          show (match (bif Nat.beq (cu a).length (Nat.mul a.length 1) then some (cu a, a.length) else none) with
            | some (cs, n) => bif cellsOk cs then mAppend2 m 68 1 4 (.vsl [] 0 (some 0)) cs n else none
            | none => none) = _
          rw [e1]
          simp only [cond_true, e2]
        rw [e3]
        by_cases h0 : a.length = 0
        · have : a = [] := List.length_eq_zero_iff.1 h0
          subst this
          exact ⟨_, _, rfl, Lim.rd (.inr ⟨some 0, rfl⟩) m, fun _ _ => rfl⟩
        · have e4 : Nat.beq a.length 0 = false := by
            cases hb : Nat.beq a.length 0 with
            | false => rfl
            | true => exact absurd (beq_t hb) h0
          have e5 : Nat.ble (Nat.mul (Nat.add 0 a.length) 4) roomB = true := Nat.ble_eq_true_of_le (by
            show (0 + a.length) * 4 ≤ 140737488355328
            omega)
          refine ⟨.msl m.next 0 0 (0 + a.length) 1, m.new (.cells (cu a) 0 false 68), ?_, ?_, ?_⟩
          · show (bif Nat.beq a.length 0 then some (PV.vsl [] 0 (some 0), m) else (bif Nat.beq 0 0 && (Nat.beq 0 (Nat.mul 0 1) && Nat.ble (Nat.mul (Nat.add 0 a.length) 4) roomB) then some (PV.msl m.next 0 0 (Nat.add 0 a.length) 1, m.new (.cells ([] ++ cu a) 0 false 68)) else none)) = _
            rw [e4, e5]
            rfl
          · intro d
            have hb : (m.new (.cells (cu a) 0 false 68)).get m.next = some (.cells (cu a) 0 false 68) := by rw [PM.get_new, if_pos rfl]
            refine ⟨_, _, reify_msl hb (by omega), .inr ⟨none, ?_⟩⟩
            rw [Nat.zero_add, List.drop_zero, List.take_length]
          · intro b hb
            rw [PM.get_new, if_neg (by omega)]
      obtain ⟨q, m', h1, h2, h3⟩ := hap
      apply WO_m2 (hn := rfl) (hb := rfl)
      exact lk
      exact lk
      · exact h1
      (apply WO_as (hn := rfl); exact lk)
      refine WO_nil ?_
      show WC E _ _ _
      refine WC_ret ?_
      show BodyQ _ _ _ _ _
      refine fin1 rfl ex_ret rfl get_hit ?_
      exact ⟨h2, h3⟩

theorem nat_Trim {a : List Nat} {p : PV} (h : Lim a p) (ho : Ok a) (hl : a.length < 1000000) : ∃ q, Lim (lm (nv a)) q ∧ ∀ m, Ev E 173 [p] m q m := by
  refine Ev_isoE rfl rfl rfl (flats1 h.flat) (fn := Go.Proofs.Tryz.f173) rfl rfl rfl ?_
  show WC E _ ⟨Tr.leaf.set 0 p, 6, _, _⟩ _
  obtain ⟨q, hq, hq2⟩ := nat_trim h ho hl
  obtain ⟨r, m', hr, hr2, _⟩ := clone32 hq (Nat.lt_of_le_of_lt (lm_le ho) hl) .empty
  repeat first | refine WC_seq ?_ | refine WC_block ?_ | refine WC_region ?_
  (apply WO_as (hn := rfl); exact lk)
  refine WO_nil ?_; show WC E _ _ _; repeat first | refine WC_seq ?_ | refine WC_block ?_ | refine WC_region ?_
  (apply WO_mv (hn := rfl); exact lk)
  apply WO_ca (hn := rfl) q PM.empty
  · exact evs1 lk
  · exact hq2 _
  apply WO_ca (hn := rfl) r m'
  · exact evs1 lk
  · exact hr
  (apply WO_as (hn := rfl); exact lk)
  refine WO_nil ?_
  show WC E _ _ _
  obtain ⟨q3, m3, h3, h4⟩ := hr2 11
  exact WC_ret (fin1 rfl ex_ret rfl get_hit ⟨q3, m3, h3, h4⟩)

theorem nat_Of {n : Nat} (hn : n < 18446744073709551616) : ∃ q, Lim (lm n) q ∧ ∀ m, Ev E 108 [.int .u64 (n : Int)] m q m := by
  refine Ev_isoE rfl rfl rfl rfl (fn := Go.Proofs.Tryz.f108) rfl rfl rfl ?_
  show WC E _ ⟨Tr.leaf.set 0 _, 10, _, _⟩ _
  have hL : Lim [n % 4294967296, n / 2 ^ 32 % 4294967296] (.vsl [.int .u32 ((n % 4294967296 : Nat) : Int), .int .u32 ((n / 2 ^ 32 % 4294967296 : Nat) : Int)] 2 (some 2)) := .inr ⟨some 2, rfl⟩
  have ho : Ok [n % 4294967296, n / 2 ^ 32 % 4294967296] := .cons (Nat.mod_lt _ BB_pos) (.cons (Nat.mod_lt _ BB_pos) .nil)
  obtain ⟨q, hq, hq2⟩ := nat_trim hL ho (by simp)
  have hv : nv [n % 4294967296, n / 2 ^ 32 % 4294967296] = n := by
    simp only [nv, BB]
    omega
  rw [hv] at hq
  repeat first | refine WC_seq ?_ | refine WC_block ?_ | refine WC_region ?_
  (apply WO_as (hn := rfl); exact lk)
  refine WO_nil ?_; show WC E _ _ _; repeat first | refine WC_seq ?_ | refine WC_block ?_ | refine WC_region ?_
  (apply WO_mv (hn := rfl); exact lk; apply WO_cv (hn := rfl); exact lk; exact rfl; exact rfl; exact ck; apply WO_mv (hn := rfl); exact lk; apply WO_bin (hn := rfl); exact lk; exact lk; exact bk; apply WO_cv (hn := rfl); exact lk; exact rfl; exact rfl; exact ck)
  apply WO_bs (hn := rfl)
  · apply evps2
    exact lk
    exact lk
  · exact rfl
  apply WO_ca (hn := rfl) q PM.empty
  · exact evs1 lk
  · exact hq2 _
  (apply WO_as (hn := rfl); exact lk)
  refine WO_nil ?_
  show WC E _ _ _
  refine WC_ret (fin1 rfl ex_ret rfl get_hit ?_)
  obtain ⟨q3, m3, h3, h4⟩ := Lim.rd hq PM.empty 11
  exact ⟨q3, m3, h3, h4⟩
end Go.Ab.T
/- nat.Cmp, nat.Add, nat.Mul. -/
open Go Go.Ab
namespace Go.Ab.T
set_option maxRecDepth 10000
set_option maxHeartbeats 1000000
set_option linter.unusedSimpArgs false
attribute [local irreducible] Tr.get Tr.set

theorem nat_Cmp {a b : List Nat} {p q : PV} (h : Lim a p) (h' : Lim b q) (ho : Ok a) (ho' : Ok b) (hl : a.length < 1000000) (hl' : b.length < 1000000) (m : PM) : Ev E 179 [p, q] m (.int .i64 (cmpI (nv a) (nv b))) m := by
  obtain ⟨p1, hp1, hp2⟩ := nat_trim h ho hl
  obtain ⟨q1, hq1, hq2⟩ := nat_trim h' ho' hl'
  have hla : (lm (nv a)).length < 1000000 := Nat.lt_of_le_of_lt (lm_le ho) hl
  have hlb : (lm (nv b)).length < 1000000 := Nat.lt_of_le_of_lt (lm_le ho') hl'
  generalize hx : nv a = x at *
  generalize hy : nv b = y at *
  refine Ev_iso rfl rfl rfl (flats2 h.flat h'.flat) (fn := Go.Proofs.Tryz.f179) rfl rfl rfl ?_ m
  show WC E _ ⟨(Tr.leaf.set 0 p).set 1 q, 45, _, _⟩ _
  have fin : ∀ {xx : Ex} {s : St} {z : Int}, (∀ i, xx ≠ .exit i) → s.df = [] → s.tm.get 4 = some (.int .i64 z) → cmpI x y = z → BodyQ E Go.Proofs.Tryz.f179 (fun v m => ∃ m2, reify 12 m v = some (.int .i64 (cmpI x y), m2)) xx s := fun {xx s z} he hd h4 hz =>
    fin1 rfl he hd h4 ⟨s.me, by rw [hz]; rfl⟩
  repeat first | refine WC_seq ?_ | refine WC_block ?_ | refine WC_region ?_
  (apply WO_as (hn := rfl); exact lk)
  refine WO_nil ?_; show WC E _ _ _; repeat first | refine WC_seq ?_ | refine WC_block ?_ | refine WC_region ?_
  (apply WO_mv (hn := rfl); exact lk)
  apply WO_ca (hn := rfl) p1 PM.empty
  · exact evs1 lk
  · exact hp2 _
  (apply WO_mv (hn := rfl); exact lk)
  apply WO_ca (hn := rfl) q1 PM.empty
  · exact evs1 lk
  · exact hq2 _
  (apply WO_as (hn := rfl); exact lk; apply WO_as (hn := rfl); exact lk)
  refine WO_nil ?_; show WC E _ _ _; repeat first | refine WC_seq ?_ | refine WC_block ?_ | refine WC_region ?_
  (apply WO_mv (hn := rfl); exact lk; apply WO_b1 (hn := rfl) (hb := rfl); exact lk; exact nk; apply WO_mv (hn := rfl); exact lk; apply WO_b1 (hn := rfl) (hb := rfl); exact lk; exact nk; apply WO_bin (hn := rfl); exact lk; exact lk; exact bk)
  refine WO_nil ?_; show WC E _ _ _; repeat first | refine WC_seq ?_ | refine WC_block ?_ | refine WC_region ?_
  apply WC_cond; (focus (apply condOf_t; (focus (first | (apply evo_t; (repeat (first | exact get_hit | assumption | refine get_miss rfl ?_ | fail)); done) | (exact rfl) | fail))))
  · intro hne
    have hne : (lm x).length ≠ (lm y).length := by simp at hne; omega
    repeat first | refine WC_seq ?_ | refine WC_block ?_ | refine WC_region ?_
    (apply WO_mv (hn := rfl); exact lk; apply WO_b1 (hn := rfl) (hb := rfl); exact lk; exact nk; apply WO_mv (hn := rfl); exact lk; apply WO_b1 (hn := rfl) (hb := rfl); exact lk; exact nk; apply WO_bin (hn := rfl); exact lk; exact lk; exact bk)
    refine WO_nil ?_; show WC E _ _ _; repeat first | refine WC_seq ?_ | refine WC_block ?_ | refine WC_region ?_
    apply WC_cond; (focus (apply condOf_t; (focus (first | (apply evo_t; (repeat (first | exact get_hit | assumption | refine get_miss rfl ?_ | fail)); done) | (exact rfl) | fail))))
    · intro hlt
      have hlt : (lm x).length < (lm y).length := by simp at hlt; omega
      repeat first | refine WC_seq ?_ | refine WC_block ?_ | refine WC_region ?_
      (apply WO_as (hn := rfl); exact lk)
      refine WO_nil ?_
      show WC E _ _ _
      refine WC_ret ?_
      show BodyQ _ _ _ _ _
      refine fin ex_ret rfl get_hit ?_
      exact if_pos (lm_len_lt hlt)
    · intro hlt
      have hlt : ¬ (lm x).length < (lm y).length := by simp at hlt; omega
      have := lm_len_lt (x := y) (y := x) (by omega)
      refine WC_skip ?_
      show WC E _ _ _; repeat first | refine WC_seq ?_ | refine WC_block ?_ | refine WC_region ?_
      (apply WO_as (hn := rfl); exact lk)
      refine WO_nil ?_
      show WC E _ _ _
      refine WC_ret ?_
      show BodyQ _ _ _ _ _
      refine fin ex_ret rfl get_hit ?_
      unfold cmpI
      rw [if_neg (by omega), if_neg (by omega)]
  · intro he
    have he : (lm x).length = (lm y).length := by simp at he; omega
    refine WC_skip ?_
    show WC E _ _ _; repeat first | refine WC_seq ?_ | refine WC_block ?_ | refine WC_region ?_
    (apply WO_mv (hn := rfl); exact lk; apply WO_b1 (hn := rfl) (hb := rfl); exact lk; exact nk; apply WO_bin (hn := rfl); exact lk; exact lk; exact bk; apply WO_as (hn := rfl); exact lk)
    refine WO_nil ?_; show WC E _ _ _; repeat first | refine WC_seq ?_ | refine WC_block ?_ | refine WC_region ?_
    refine WC_loop (fun j s => ∃ tm, s = ⟨tm, 45, .empty, []⟩ ∧ tm.get 0 = some p1 ∧ tm.get 1 = some q1 ∧ tm.get 5 = some (.int .i64 ((j : Int) - 1)) ∧ j ≤ (lm x).length ∧ (lm x).drop j = (lm y).drop j) (lm x).length ⟨_, rfl, gk, gk, gk, Nat.le_refl _, by rw [List.drop_length, he, List.drop_length]⟩ ?_
    rintro j s ⟨tm, rfl, h0, h1, h5, hj, hd⟩
    repeat first | refine WC_seq ?_ | refine WC_block ?_ | refine WC_region ?_
    (apply WO_mv (hn := rfl); exact lk; apply WO_bin (hn := rfl); exact lk; exact lk; exact bk)
    refine WO_nil ?_; show WC E _ _ _; repeat first | refine WC_seq ?_ | refine WC_block ?_ | refine WC_region ?_
    apply WC_cond; (focus (apply condOf_t; (focus (first | (apply evo_t; (repeat (first | exact get_hit | assumption | refine get_miss rfl ?_ | fail)); done) | (exact rfl) | fail))))
    · intro hc
      have hc : j ≠ 0 := by simp at hc; omega
      have hjj : (j : Int) - 1 = ((j - 1 : Nat) : Int) := by omega
      rw [hjj] at h5 ⊢
      obtain ⟨u, hu, hu2⟩ := lm_get (n := x) (i := j - 1) (by omega)
      obtain ⟨v, hv, hv2⟩ := lm_get (n := y) (i := j - 1) (by omega)
      refine WC_skip ?_
      show WC E _ _ _; repeat first | refine WC_seq ?_ | refine WC_block ?_ | refine WC_region ?_
      (apply WC_draw; (focus exact rfl))
      (apply WD_mv (hn := rfl); exact lk; apply WD_mv (hn := rfl); exact lk)
      apply WD_ia (hn := rfl)
      exact lk
      exact lk
      · exact ia_lim ty34 hp1 (by omega)
      apply WD_ld (hn := rfl)
      exact lk
      · exact ty68
      · exact ld_lim rfl hu
      (apply WD_mv (hn := rfl); exact lk; apply WD_mv (hn := rfl); exact lk)
      apply WD_ia (hn := rfl)
      exact lk
      exact lk
      · exact ia_lim ty34 hq1 (by omega)
      apply WD_ld (hn := rfl)
      exact lk
      · exact ty68
      · exact ld_lim rfl hv
      (apply WD_bin (hn := rfl); exact lk; exact lk; exact bk)
      refine WD_nil ⟨rfl, ?_⟩; show WC E _ _ _; repeat first | refine WC_seq ?_ | refine WC_block ?_ | refine WC_region ?_
      apply WC_cond; (focus (apply condOf_t; (focus (first | (apply evo_t; (repeat (first | exact get_hit | assumption | refine get_miss rfl ?_ | fail)); done) | (exact rfl) | fail))))
      · intro hne
        have hne : u ≠ v := by simp at hne; omega
        repeat first | refine WC_seq ?_ | refine WC_block ?_ | refine WC_region ?_
        (apply WC_draw; (focus exact rfl))
        (apply WD_mv (hn := rfl); exact lk; apply WD_mv (hn := rfl); exact lk)
        apply WD_ia (hn := rfl)
        exact lk
        exact lk
        · exact ia_lim ty34 hp1 (by omega)
        apply WD_ld (hn := rfl)
        exact lk
        · exact ty68
        · exact ld_lim rfl hu
        (apply WD_mv (hn := rfl); exact lk; apply WD_mv (hn := rfl); exact lk)
        apply WD_ia (hn := rfl)
        exact lk
        exact lk
        · exact ia_lim ty34 hq1 (by omega)
        apply WD_ld (hn := rfl)
        exact lk
        · exact ty68
        · exact ld_lim rfl hv
        (apply WD_bin (hn := rfl); exact lk; exact lk; exact bk)
        refine WD_nil ⟨rfl, ?_⟩; show WC E _ _ _; repeat first | refine WC_seq ?_ | refine WC_block ?_ | refine WC_region ?_
        have hdd : (lm x).drop (j - 1 + 1) = (lm y).drop (j - 1 + 1) := by rw [show j - 1 + 1 = j by omega]; exact hd
        apply WC_cond; (focus (apply condOf_t; (focus (first | (apply evo_t; (repeat (first | exact get_hit | assumption | refine get_miss rfl ?_ | fail)); done) | (exact rfl) | fail))))
        · intro hlt
          have hlt : u < v := by simp at hlt; omega
          have := nv_lt_top (ok_lm x) hu hv hdd hlt
          rw [nv_lm, nv_lm] at this
          repeat first | refine WC_seq ?_ | refine WC_block ?_ | refine WC_region ?_
          (apply WO_as (hn := rfl); exact lk)
          refine WO_nil ?_
          show WC E _ _ _
          refine WC_ret ?_
          show BodyQ _ _ _ _ _
          refine fin ex_ret rfl get_hit ?_
          exact if_pos this
        · intro hlt
          have hlt : ¬ u < v := by simp at hlt; omega
          have := nv_lt_top (ok_lm y) hv hu hdd.symm (by omega)
          rw [nv_lm, nv_lm] at this
          refine WC_skip ?_
          show WC E _ _ _; repeat first | refine WC_seq ?_ | refine WC_block ?_ | refine WC_region ?_
          (apply WO_as (hn := rfl); exact lk)
          refine WO_nil ?_
          show WC E _ _ _
          refine WC_ret ?_
          show BodyQ _ _ _ _ _
          refine fin ex_ret rfl get_hit ?_
          unfold cmpI
          rw [if_neg (by omega), if_neg (by omega)]
      · intro heq
        have heq : u = v := by simp at heq; omega
        refine WC_skip ?_
        show WC E _ _ _; repeat first | refine WC_seq ?_ | refine WC_block ?_ | refine WC_region ?_
        (apply WO_mv (hn := rfl); exact lk; apply WO_bin (hn := rfl); exact lk; exact lk; exact bk; apply WO_as (hn := rfl); exact lk)
        refine WO_nil ?_
        refine ⟨j - 1, by omega, _, rfl, gk, gk, get_hit, by omega, ?_⟩
        have e1 := List.drop_eq_getElem_cons (l := lm x) (i := j - 1) (by omega)
        have e2 := List.drop_eq_getElem_cons (l := lm y) (i := j - 1) (by omega)
        rw [e1, e2, show j - 1 + 1 = j by omega, hd]
        congr 1
        rw [List.getElem?_eq_getElem (by omega)] at hu hv
        rw [Option.some.inj hu, Option.some.inj hv, heq]
    · intro hc
      have hc : j = 0 := by simp at hc; omega
      subst hc
      refine WC_exit ?_
      show WC E _ _ _; repeat first | refine WC_seq ?_ | refine WC_block ?_ | refine WC_region ?_
      (apply WO_as (hn := rfl); exact lk)
      refine WO_nil ?_
      show WC E _ _ _
      refine WC_ret ?_
      show BodyQ _ _ _ _ _
      refine fin ex_ret rfl get_hit ?_
      rw [List.drop_zero, List.drop_zero] at hd
      have : x = y := by rw [← nv_lm x, hd, nv_lm]
      unfold cmpI
      rw [if_neg (by omega), if_pos this]
end Go.Ab.T
/- nat.Add. -/
open Go Go.Ab
namespace Go.Ab.T
set_option maxRecDepth 10000
set_option maxHeartbeats 1000000
set_option linter.unusedSimpArgs false
attribute [local irreducible] Tr.get Tr.set

/-- a call with a row that was written just now -/
theorem ev_msl {f : Nat} {a : List Nat} {b g off n et : Nat} {frz : Bool} {m : PM} {r : PV} (hext : E.ext f = none) (hs : E.same f = false) (hi : E.iso f = true) (hb : m.get b = some (.cells (cu a) g frz et)) (ho : off = 0) (hn : n = a.length) (h : Ev E f [.vsl (cu a) a.length none] m r m) : ∃ m', Ev E f [.msl b g off n 1] m r m' := by
  subst ho; subst hn
  have hr := reify_msl (d := 10) hb (off := 0) (n := a.length) (by omega)
  rw [List.drop_zero, List.take_length] at hr
  refine ⟨_, Ev_reify hext hs hi (ls := [.vsl (cu a) a.length none]) (m1 := m.upd b (.cells (cu a) g true et)) ?_ rfl h⟩
  simp only [reifysW, flat, cond_false]
  show (match reify 11 m (.msl b g 0 a.length 1) with
    | some (y, m') => (match some ([], m') with
      | some (l', m'') => some (y :: l', m'')
      | none => none)
    | none => none) = _
  rw [hr]

theorem ev_msl2 {f : Nat} {a : List Nat} {b g off n et : Nat} {frz : Bool} {m : PM} {r : PV} (hext : E.ext f = none) (hs : E.same f = false) (hi : E.iso f = true) (hb : m.get b = some (.cells (cu a) g frz et)) (hl : off + n ≤ a.length) {xs : List PV} (hxs : flats xs = true) (h : Ev E f (.vsl (cu ((a.drop off).take n)) n none :: xs) m r m) :
    ∃ m', Ev E f (.msl b g off n 1 :: xs) m r m' ∧ m'.next = m.next ∧ (∀ b', b' ≠ b → m'.get b' = m.get b') := by
  have hr := reify_msl (d := 10) hb (off := off) (n := n) hl
  refine ⟨_, Ev_reify hext hs hi (ls := .vsl (cu ((a.drop off).take n)) n none :: xs) (m1 := m.upd b (.cells (cu a) g true et)) ?_ (by simp only [flats, flat, cond_true]; exact hxs) h, ?_, ?_⟩
  · simp only [reifysW, flat, cond_false]
    rw [hr]
    simp only [reifysW_flats hxs]
  · cases refs r <;> rfl
  · intro b' hb'
    cases refs r
    · rfl
    · show (m.upd b _).get b' = _
      rw [PM.get_upd, if_neg (fun e => hb' e.symm)]

theorem nat_Add {a b : List Nat} {p q : PV} (h : Lim a p) (h' : Lim b q) (ho : Ok a) (ho' : Ok b) (hl : a.length < 900000) (hl' : b.length < 900000) : ∃ r, Lim (lm (nv a + nv b)) r ∧ ∀ m, Ev E 325 [p, q] m r m := by
  obtain ⟨p1, hp1, hp2⟩ := nat_trim h ho (by omega)
  obtain ⟨q1, hq1, hq2⟩ := nat_trim h' ho' (by omega)
  have hla : (lm (nv a)).length < 900000 := Nat.lt_of_le_of_lt (lm_le ho) hl
  have hlb : (lm (nv b)).length < 900000 := Nat.lt_of_le_of_lt (lm_le ho') hl'
  generalize hx : nv a = x at *
  generalize hy : nv b = y at *
  refine Ev_isoE rfl rfl rfl (flats2 h.flat h'.flat) (fn := Go.Proofs.Tryz.f325) rfl rfl rfl ?_
  show WC E _ ⟨(Tr.leaf.set 0 p).set 1 q, 62, _, _⟩ _
  repeat first | refine WC_seq ?_ | refine WC_block ?_ | refine WC_region ?_
  (apply WO_as (hn := rfl); exact lk)
  refine WO_nil ?_; show WC E _ _ _; repeat first | refine WC_seq ?_ | refine WC_block ?_ | refine WC_region ?_
  (apply WO_mv (hn := rfl); exact lk)
  apply WO_ca (hn := rfl) p1 PM.empty
  · exact evs1 lk
  · exact hp2 _
  (apply WO_mv (hn := rfl); exact lk)
  apply WO_ca (hn := rfl) q1 PM.empty
  · exact evs1 lk
  · exact hq2 _
  (apply WO_as (hn := rfl); exact lk; apply WO_as (hn := rfl); exact lk)
  refine WO_nil ?_; show WC E _ _ _; repeat first | refine WC_seq ?_ | refine WC_block ?_ | refine WC_region ?_
  (apply WO_mv (hn := rfl); exact lk; apply WO_b1 (hn := rfl) (hb := rfl); exact lk; exact nk; apply WO_mv (hn := rfl); exact lk; apply WO_b1 (hn := rfl) (hb := rfl); exact lk; exact nk; apply WO_bin (hn := rfl); exact lk; exact lk; exact bk)
  refine WO_nil ?_; show WC E _ _ _; repeat first | refine WC_seq ?_ | refine WC_block ?_ | refine WC_region ?_
  refine WC.mono (Q := fun xx s' => xx = .nrm ∧ ∃ tm A B pA pB, s' = ⟨tm, 62, .empty, []⟩ ∧ tm.get 0 = some pA ∧ tm.get 1 = some pB ∧ Lim A pA ∧ Lim B pB ∧ Ok A ∧ Ok B ∧ B.length ≤ A.length ∧ A.length < 900000 ∧ nv A + nv B = x + y) ?_ ?_
  · apply WC_cond; (focus (apply condOf_t; (focus (first | (apply evo_t; (repeat (first | exact get_hit | assumption | refine get_miss rfl ?_ | fail)); done) | (exact rfl) | fail))))
    · intro hlt
      have hlt : (lm x).length < (lm y).length := by simp at hlt; omega
      repeat first | refine WC_seq ?_ | refine WC_block ?_ | refine WC_region ?_
      (apply WO_mv (hn := rfl); exact lk; apply WO_mv (hn := rfl); exact lk; apply WO_as (hn := rfl); exact lk; apply WO_as (hn := rfl); exact lk)
      exact WO_nil ⟨rfl, _, lm y, lm x, q1, p1, rfl, gk, gk, hq1, hp1, ok_lm y, ok_lm x, by omega, by omega, by rw [nv_lm, nv_lm]; omega⟩
    · intro hlt
      have hlt : ¬ (lm x).length < (lm y).length := by simp at hlt; omega
      exact WC_skip ⟨rfl, _, lm x, lm y, p1, q1, rfl, gk, gk, hp1, hq1, ok_lm x, ok_lm y, by omega, by omega, by rw [nv_lm, nv_lm]⟩
  rintro _ _ ⟨rfl, tm, A, B, pA, pB, rfl, h0, h1, hA, hB, hoA, hoB, hlen, hlA, hsum⟩
  show WC E _ _ _; repeat first | refine WC_seq ?_ | refine WC_block ?_ | refine WC_region ?_
  (apply WO_mv (hn := rfl); exact lk; apply WO_b1 (hn := rfl) (hb := rfl); exact lk; exact nk; apply WO_bin (hn := rfl); exact lk; exact lk; exact bk)
  apply WO_mk (hn := rfl)
  exact lk
  exact lk
  · exact mk_msl ty34 (n := A.length + 1) (by omega)
  (apply WO_as (hn := rfl); exact lk)
  refine WO_nil ?_; show WC E _ _ _; repeat first | refine WC_seq ?_ | refine WC_block ?_ | refine WC_region ?_
  (apply WO_as (hn := rfl); exact lk)
  refine WO_nil ?_; show WC E _ _ _; repeat first | refine WC_seq ?_ | refine WC_block ?_ | refine WC_region ?_
  (apply WO_mv (hn := rfl); exact lk; apply WO_b1 (hn := rfl) (hb := rfl); exact lk; exact nk; apply WO_mv (hn := rfl); exact lk)
  refine WO_nil ?_; show WC E _ _ _; repeat first | refine WC_seq ?_ | refine WC_block ?_ | refine WC_region ?_
  refine WC_loop (fun j s => ∃ (tm : Tr PV) (me : PM) (i : Nat) (c : List Nat) (cr : Nat), s = ⟨tm, 62, me, []⟩ ∧ tm.get 0 = some pA ∧ tm.get 1 = some pB ∧ tm.get 24 = some pA ∧ tm.get 25 = some (.int .i64 (A.length : Int)) ∧ tm.get 26 = some (.int .i64 (i : Int)) ∧ tm.get 6 = some (.int .u64 (cr : Int)) ∧ tm.get 5 = some (.msl 0 0 0 (A.length + 1) 1) ∧
    me.get 0 = some (.cells (cu c) 0 false 68) ∧ c.length = A.length + 1 ∧ Ok c ∧ i ≤ A.length ∧ j = A.length - i ∧ cr ≤ 1 ∧ nv (c.take i) + BB ^ i * cr = nv (A.take i) + nv (B.take i)) A.length
    ⟨_, _, 0, List.replicate (A.length + 1) 0, 0, rfl, gk, gk, gk, gk, gk, gk, gk, by rw [PM.get_new]; exact if_pos rfl, by simp, .replicate, by omega, by omega, by omega, by simp [nv]⟩ ?_
  rintro j s ⟨tm, me, i, c, cr, rfl, h0, h1, h24, h25, h26, h6, h5, hb, hc, hoc, hi, hj, hcr, hv⟩
  repeat first | refine WC_seq ?_ | refine WC_block ?_ | refine WC_region ?_
  (apply WO_bin (hn := rfl); exact lk; exact lk; exact bk)
  refine WO_nil ?_; show WC E _ _ _; repeat first | refine WC_seq ?_ | refine WC_block ?_ | refine WC_region ?_
  apply WC_cond; (focus (apply condOf_t; (focus (first | (apply evo_t; (repeat (first | exact get_hit | assumption | refine get_miss rfl ?_ | fail)); done) | (exact rfl) | fail))))
  · intro hlt
    have hlt : i < A.length := by simp at hlt; omega
    obtain ⟨u, hu⟩ : ∃ u, A[i]? = some u := ⟨_, List.getElem?_eq_getElem hlt⟩
    have hu2 : u < 4294967296 := hoA.get hu
    refine WC_skip ?_
    show WC E _ _ _; repeat first | refine WC_seq ?_ | refine WC_block ?_ | refine WC_region ?_
    (apply WO_mv (hn := rfl); exact lk)
    apply WO_ia (hn := rfl)
    exact lk
    exact lk
    · exact ia_lim ty34 hA hlt
    apply WO_ld (hn := rfl)
    exact lk
    · exact ld_lim ty68 hu
    (apply WO_as (hn := rfl); exact lk; apply WO_as (hn := rfl); exact lk)
    refine WO_nil ?_; show WC E _ _ _; repeat first | refine WC_seq ?_ | refine WC_block ?_ | refine WC_region ?_
    (apply WO_mv (hn := rfl); exact lk; apply WO_mv (hn := rfl); exact lk; apply WO_cv (hn := rfl); exact lk; exact rfl; exact rfl; exact ck; apply WO_bin (hn := rfl); exact lk; exact lk; exact bk; apply WO_as (hn := rfl); exact lk)
    refine WO_nil ?_; show WC E _ _ _; repeat first | refine WC_seq ?_ | refine WC_block ?_ | refine WC_region ?_
    (apply WO_mv (hn := rfl); exact lk; apply WO_mv (hn := rfl); exact lk; apply WO_b1 (hn := rfl) (hb := rfl); exact lk; exact nk; apply WO_bin (hn := rfl); exact lk; exact lk; exact bk)
    refine WO_nil ?_; show WC E _ _ _; repeat first | refine WC_seq ?_ | refine WC_block ?_ | refine WC_region ?_
    have hB2 : B[i]?.getD 0 < 4294967296 := by
      cases hw : B[i]? with
      | none => decide
      | some w => exact hoB.get hw
    refine WC.mono (Q := fun xx s' => xx = .nrm ∧ ∃ tm, s' = ⟨tm, 62, me, []⟩ ∧ tm.get 0 = some pA ∧ tm.get 1 = some pB ∧ tm.get 24 = some pA ∧ tm.get 25 = some (.int .i64 (A.length : Int)) ∧ tm.get 26 = some (.int .i64 (i : Int)) ∧ tm.get 7 = some (.int .i64 (i : Int)) ∧ tm.get 6 = some (.int .u64 ((cr + u + B[i]?.getD 0 : Nat) : Int)) ∧ tm.get 5 = some (.msl 0 0 0 (A.length + 1) 1)) ?_ ?_
    · apply WC_cond; (focus (apply condOf_t; (focus (first | (apply evo_t; (repeat (first | exact get_hit | assumption | refine get_miss rfl ?_ | fail)); done) | (exact rfl) | fail))))
      · intro hlb
        have hlb : i < B.length := by simp at hlb; omega
        obtain ⟨w, hw⟩ : ∃ w, B[i]? = some w := ⟨_, List.getElem?_eq_getElem hlb⟩
        have hw2 : w < 4294967296 := hoB.get hw
        repeat first | refine WC_seq ?_ | refine WC_block ?_ | refine WC_region ?_
        (apply WO_mv (hn := rfl); exact lk; apply WO_mv (hn := rfl); exact lk; apply WO_mv (hn := rfl); exact lk)
        apply WO_ia (hn := rfl)
        exact lk
        exact lk
        · exact ia_lim ty34 hB hlb
        apply WO_ld (hn := rfl)
        exact lk
        · exact ld_lim ty68 hw
        (apply WO_cv (hn := rfl); exact lk; exact rfl; exact rfl; exact ck; apply WO_bin (hn := rfl); exact lk; exact lk; exact bk; apply WO_as (hn := rfl); exact lk)
        refine WO_nil ⟨rfl, _, rfl, gk, gk, gk, gk, gk, gk, ?_, gk⟩
        rw [hw]
        exact get_hit
      · intro hlb
        have hlb : ¬ i < B.length := by simp at hlb; omega
        refine WC_skip ⟨rfl, _, rfl, gk, gk, gk, gk, gk, gk, ?_, gk⟩
        rw [List.getElem?_eq_none (by omega)]
        (repeat (first | exact get_hit | assumption | refine get_miss rfl ?_ | fail))
    rintro _ _ ⟨rfl, tm2, rfl, h0, h1, h24, h25, h26, h7, h6, h5⟩
    show WC E _ _ _; repeat first | refine WC_seq ?_ | refine WC_block ?_ | refine WC_region ?_
    (apply WO_mv (hn := rfl); exact lk; apply WO_mv (hn := rfl); exact lk; apply WO_mv (hn := rfl); exact lk; apply WO_cv (hn := rfl); exact lk; exact rfl; exact rfl; exact ck)
    apply WO_ia (hn := rfl)
    exact lk
    exact lk
    · exact ia_msl ty34 (by omega)
    apply WO_st
    exact lk
    exact lk
    · exact st_msl ty68 (by simpa using hb) (by omega)
    skip
    refine WO_nil ?_; show WC E _ _ _; repeat first | refine WC_seq ?_ | refine WC_block ?_ | refine WC_region ?_
    (apply WO_mv (hn := rfl); exact lk; apply WO_bin (hn := rfl); exact lk; exact lk; exact bk; apply WO_as (hn := rfl); exact lk)
    refine WO_nil ?_; show WC E _ _ _; repeat first | refine WC_seq ?_ | refine WC_block ?_ | refine WC_region ?_
    (apply WO_bin (hn := rfl); exact lk; exact lk; exact bk; apply WO_mv (hn := rfl); exact lk)
    refine WO_nil ?_
    refine ⟨j - 1, by omega, _, _, i + 1, c.set (0 + i) ((cr + u + B[i]?.getD 0) % 4294967296), (cr + u + B[i]?.getD 0) / 4294967296, rfl, gk, gk, gk, gk, gk, gk, gk, by rw [PM.get_upd, if_pos rfl], by simpa using hc, hoc.set (Nat.mod_lt _ BB_pos), by omega, by omega, by omega, ?_⟩
    rw [Nat.zero_add]
    have := put_carry (c := c) (i := i) (s := cr + u + B[i]?.getD 0) (t := nv (A.take (i + 1)) + nv (B.take (i + 1))) (by omega) (by
      rw [nv_take_succ hu, nv_take_getD B i, Nat.mul_add, Nat.mul_add]
      omega)
    exact this
  · intro hlt
    have hlt : i = A.length := by simp at hlt; omega
    subst hlt
    refine WC_exit ?_
    show WC E _ _ _; repeat first | refine WC_seq ?_ | refine WC_block ?_ | refine WC_region ?_
    (apply WO_mv (hn := rfl); exact lk; apply WO_mv (hn := rfl); exact lk; apply WO_b1 (hn := rfl) (hb := rfl); exact lk; exact nk; apply WO_mv (hn := rfl); exact lk; apply WO_cv (hn := rfl); exact lk; exact rfl; exact rfl; exact ck)
    apply WO_ia (hn := rfl)
    exact lk
    exact lk
    · exact ia_msl ty34 (by omega)
    apply WO_st
    exact lk
    exact lk
    · exact st_msl ty68 (by simpa using hb) (by omega)
    refine WO_nil ?_; show WC E _ _ _; repeat first | refine WC_seq ?_ | refine WC_block ?_ | refine WC_region ?_
    (apply WO_mv (hn := rfl); exact lk)
    have hc2 : nv (c.set (0 + A.length) (cr % 4294967296)) = x + y := by
      rw [Nat.zero_add, ← nv_take_all (c := c.set A.length (cr % 4294967296)) (n := A.length + 1) (by simp [hc]), nv_set_take (by omega), Nat.mod_eq_of_lt (by omega), hv, nv_take_all (Nat.le_refl _), nv_take_all hlen, hsum]
    have hrd : Ok (c.set (0 + A.length) (cr % 4294967296)) := hoc.set (Nat.mod_lt _ BB_pos)
    obtain ⟨r, hr1, hr2⟩ := nat_trim (a := c.set (0 + A.length) (cr % 4294967296)) (.inr ⟨none, rfl⟩) hrd (by simp [hc]; omega)
    rw [hc2] at hr1
    obtain ⟨m', hm'⟩ := ev_msl (f := 176) rfl rfl rfl (b := 0) (g := 0) (off := 0) (n := A.length + 1) (et := 68) (a := c.set (0 + A.length) (cr % 4294967296)) (m := me.upd 0 (.cells (cu (c.set (0 + A.length) (cr % 4294967296))) 0 false 68)) (by rw [PM.get_upd, if_pos rfl]) (by simp [hc]) (by simp [hc]) (hr2 _)
    apply WO_ca (hn := rfl) r m'
    · exact evs1 lk
    · exact hm'
    (apply WO_as (hn := rfl); exact lk)
    refine WO_nil ?_
    show WC E _ _ _
    refine WC_ret (fin1 rfl ex_ret rfl get_hit ?_)
    obtain ⟨q3, m3, h3, h4⟩ := Lim.rd hr1 m' 11
    exact ⟨q3, m3, h3, h4⟩
end Go.Ab.T
/- nat.Mul. -/
open Go Go.Ab
namespace Go.Ab.T
set_option maxRecDepth 10000
set_option maxHeartbeats 1000000
set_option linter.unusedSimpArgs false
attribute [local irreducible] Tr.get Tr.set

theorem nat_Mul {a b : List Nat} {p q : PV} (h : Lim a p) (h' : Lim b q) (ho : Ok a) (ho' : Ok b) (hl : a.length < 400000) (hl' : b.length < 400000) : ∃ r, Lim (lm (nv a * nv b)) r ∧ ∀ m, Ev E 326 [p, q] m r m := by
  obtain ⟨pA, hA, hp2⟩ := nat_trim h ho (by omega)
  obtain ⟨pB, hB, hq2⟩ := nat_trim h' ho' (by omega)
  have hla : (lm (nv a)).length < 400000 := Nat.lt_of_le_of_lt (lm_le ho) hl
  have hlb : (lm (nv b)).length < 400000 := Nat.lt_of_le_of_lt (lm_le ho') hl'
  generalize hx : nv a = x at *
  generalize hy : nv b = y at *
  refine Ev_isoE rfl rfl rfl (flats2 h.flat h'.flat) (fn := Go.Proofs.Tryz.f326) rfl rfl rfl ?_
  show WC E _ ⟨(Tr.leaf.set 0 p).set 1 q, 71, _, _⟩ _
  have hoA := ok_lm x
  have hoB := ok_lm y
  have hxA := nv_lm x
  have hyB := nv_lm y
  generalize lm x = A at *
  generalize lm y = B at *
  repeat first | refine WC_seq ?_ | refine WC_block ?_ | refine WC_region ?_
  (apply WO_as (hn := rfl); exact lk)
  refine WO_nil ?_; show WC E _ _ _; repeat first | refine WC_seq ?_ | refine WC_block ?_ | refine WC_region ?_
  (apply WO_mv (hn := rfl); exact lk)
  apply WO_ca (hn := rfl) pA PM.empty
  · exact evs1 lk
  · exact hp2 _
  (apply WO_mv (hn := rfl); exact lk)
  apply WO_ca (hn := rfl) pB PM.empty
  · exact evs1 lk
  · exact hq2 _
  (apply WO_as (hn := rfl); exact lk; apply WO_as (hn := rfl); exact lk)
  refine WO_nil ?_; show WC E _ _ _; repeat first | refine WC_seq ?_ | refine WC_block ?_ | refine WC_region ?_
  (apply WO_mv (hn := rfl); exact lk; apply WO_b1 (hn := rfl) (hb := rfl); exact lk; exact nk; apply WO_mv (hn := rfl); exact lk; apply WO_b1 (hn := rfl) (hb := rfl); exact lk; exact nk; apply WO_bin (hn := rfl); exact lk; exact lk; exact bk)
  apply WO_mk (hn := rfl)
  exact lk
  exact lk
  · exact mk_msl ty34 (n := A.length + B.length) (by omega)
  (apply WO_as (hn := rfl); exact lk)
  refine WO_nil ?_; show WC E _ _ _; repeat first | refine WC_seq ?_ | refine WC_block ?_ | refine WC_region ?_
  (apply WO_mv (hn := rfl); exact lk; apply WO_b1 (hn := rfl) (hb := rfl); exact lk; exact nk; apply WO_mv (hn := rfl); exact lk)
  refine WO_nil ?_; show WC E _ _ _; repeat first | refine WC_seq ?_ | refine WC_block ?_ | refine WC_region ?_
  refine WC_loop (fun j s => ∃ (tm : Tr PV) (me : PM) (i : Nat) (c : List Nat), s = ⟨tm, 71, me, []⟩ ∧ tm.get 1 = some pB ∧ tm.get 21 = some pA ∧ tm.get 22 = some (.int .i64 (A.length : Int)) ∧ tm.get 23 = some (.int .i64 (i : Int)) ∧ tm.get 5 = some (.msl 0 0 0 (A.length + B.length) 1) ∧
    me.get 0 = some (.cells (cu c) 0 false 68) ∧ c.length = A.length + B.length ∧ Ok c ∧ i ≤ A.length ∧ j = A.length - i ∧ nv (c.take (i + B.length)) = nv (A.take i) * nv B) A.length
    ⟨_, _, 0, List.replicate (A.length + B.length) 0, rfl, gk, gk, gk, gk, gk, by rw [PM.get_new]; exact if_pos rfl, by simp, .replicate, by omega, by omega, by simp [nv, List.take_replicate, nv_replicate]⟩ ?_
  rintro j s ⟨tm, me, i, c, rfl, h1, h21, h22, h23, h5, hb, hc, hoc, hi, hj, hv⟩
  repeat first | refine WC_seq ?_ | refine WC_block ?_ | refine WC_region ?_
  (apply WO_bin (hn := rfl); exact lk; exact lk; exact bk)
  refine WO_nil ?_; show WC E _ _ _; repeat first | refine WC_seq ?_ | refine WC_block ?_ | refine WC_region ?_
  apply WC_cond; (focus (apply condOf_t; (focus (first | (apply evo_t; (repeat (first | exact get_hit | assumption | refine get_miss rfl ?_ | fail)); done) | (exact rfl) | fail))))
  · intro hlt
    have hlt : i < A.length := by simp at hlt; omega
    obtain ⟨u, hu⟩ : ∃ u, A[i]? = some u := ⟨_, List.getElem?_eq_getElem hlt⟩
    have hu2 : u < 4294967296 := hoA.get hu
    refine WC_skip ?_
    show WC E _ _ _; repeat first | refine WC_seq ?_ | refine WC_block ?_ | refine WC_region ?_
    (apply WO_mv (hn := rfl); exact lk)
    apply WO_ia (hn := rfl)
    exact lk
    exact lk
    · exact ia_lim ty34 hA hlt
    apply WO_ld (hn := rfl)
    exact lk
    · exact ld_lim ty68 hu
    (apply WO_as (hn := rfl); exact lk; apply WO_as (hn := rfl); exact lk)
    refine WO_nil ?_; show WC E _ _ _; repeat first | refine WC_seq ?_ | refine WC_block ?_ | refine WC_region ?_
    (apply WO_as (hn := rfl); exact lk)
    refine WO_nil ?_; show WC E _ _ _; repeat first | refine WC_seq ?_ | refine WC_block ?_ | refine WC_region ?_
    (apply WO_mv (hn := rfl); exact lk; apply WO_b1 (hn := rfl) (hb := rfl); exact lk; exact nk; apply WO_mv (hn := rfl); exact lk)
    refine WO_nil ?_; show WC E _ _ _; repeat first | refine WC_seq ?_ | refine WC_block ?_ | refine WC_region ?_
    refine WC_loop (fun j s => ∃ (tm : Tr PV) (me : PM) (k : Nat) (d : List Nat) (cr : Nat), s = ⟨tm, 71, me, []⟩ ∧ tm.get 1 = some pB ∧ tm.get 21 = some pA ∧ tm.get 22 = some (.int .i64 (A.length : Int)) ∧ tm.get 23 = some (.int .i64 (i : Int)) ∧ tm.get 5 = some (.msl 0 0 0 (A.length + B.length) 1) ∧
      tm.get 6 = some (.int .i64 (i : Int)) ∧ tm.get 7 = some (.int .u32 (u : Int)) ∧ tm.get 8 = some (.int .u64 (cr : Int)) ∧ tm.get 28 = some pB ∧ tm.get 29 = some (.int .i64 (B.length : Int)) ∧ tm.get 30 = some (.int .i64 (k : Int)) ∧
      me.get 0 = some (.cells (cu d) 0 false 68) ∧ d.length = A.length + B.length ∧ Ok d ∧ k ≤ B.length ∧ j = B.length - k ∧ cr < 4294967296 ∧ d.drop (i + k) = c.drop (i + k) ∧ nv (d.take (i + k)) + BB ^ (i + k) * cr = nv (c.take (i + k)) + BB ^ i * u * nv (B.take k)) B.length
      ⟨_, _, 0, c, 0, rfl, gk, gk, gk, gk, gk, gk, gk, gk, gk, gk, gk, hb, hc, hoc, by omega, by omega, by omega, rfl, by simp [nv]⟩ ?_
    clear h1 h21 h22 h23 h5 hb
    rintro j2 s ⟨tm, me, k, d, cr, rfl, h1, h21, h22, h23, h5, h6, h7, h8, h28, h29, h30, hb, hd, hod, hk, hj2, hcr, hdd, hw⟩
    repeat first | refine WC_seq ?_ | refine WC_block ?_ | refine WC_region ?_
    (apply WO_bin (hn := rfl); exact lk; exact lk; exact bk)
    refine WO_nil ?_; show WC E _ _ _; repeat first | refine WC_seq ?_ | refine WC_block ?_ | refine WC_region ?_
    apply WC_cond; (focus (apply condOf_t; (focus (first | (apply evo_t; (repeat (first | exact get_hit | assumption | refine get_miss rfl ?_ | fail)); done) | (exact rfl) | fail))))
    · intro hlt2
      have hlt2 : k < B.length := by simp at hlt2; omega
      obtain ⟨w, hw1⟩ : ∃ w, B[k]? = some w := ⟨_, List.getElem?_eq_getElem hlt2⟩
      have hw2 : w < 4294967296 := hoB.get hw1
      obtain ⟨z, hz1⟩ : ∃ z, d[i + k]? = some z := ⟨_, List.getElem?_eq_getElem (by omega)⟩
      have hz2 : z < 4294967296 := hod.get hz1
      have hmul := mulB hu2 hw2
      refine WC_skip ?_
      show WC E _ _ _; repeat first | refine WC_seq ?_ | refine WC_block ?_ | refine WC_region ?_
      (apply WO_mv (hn := rfl); exact lk)
      apply WO_ia (hn := rfl)
      exact lk
      exact lk
      · exact ia_lim ty34 hB hlt2
      apply WO_ld (hn := rfl)
      exact lk
      · exact ld_lim ty68 hw1
      (apply WO_as (hn := rfl); exact lk; apply WO_as (hn := rfl); exact lk)
      refine WO_nil ?_; show WC E _ _ _; repeat first | refine WC_seq ?_ | refine WC_block ?_ | refine WC_region ?_
      (apply WO_mv (hn := rfl); exact lk; apply WO_mv (hn := rfl); exact lk; apply WO_cv (hn := rfl); exact lk; exact rfl; exact rfl; exact ck; apply WO_mv (hn := rfl); exact lk; apply WO_cv (hn := rfl); exact lk; exact rfl; exact rfl; exact ck; apply WO_bin (hn := rfl); exact lk; exact lk; exact bk; apply WO_mv (hn := rfl); exact lk; apply WO_mv (hn := rfl); exact lk; apply WO_mv (hn := rfl); exact lk; apply WO_bin (hn := rfl); exact lk; exact lk; exact bk)
      apply WO_ia (hn := rfl)
      exact lk
      exact lk
      · rw [show (i : Int) + (k : Int) = ((i + k : Nat) : Int) from rfl]
        exact ia_msl ty34 (by omega)
      apply WO_ld (hn := rfl)
      exact lk
      · rw [Nat.zero_add]; exact ld_msl ty68 hb hz1
      (apply WO_cv (hn := rfl); exact lk; exact rfl; exact rfl; exact ck; apply WO_bin (hn := rfl); exact lk; exact lk; exact bk; apply WO_bin (hn := rfl); exact lk; exact lk; exact bk; apply WO_as (hn := rfl); exact lk)
      refine WO_nil ?_; show WC E _ _ _; repeat first | refine WC_seq ?_ | refine WC_block ?_ | refine WC_region ?_
      (apply WO_mv (hn := rfl); exact lk; apply WO_mv (hn := rfl); exact lk; apply WO_mv (hn := rfl); exact lk; apply WO_bin (hn := rfl); exact lk; exact lk; exact bk; apply WO_mv (hn := rfl); exact lk; apply WO_cv (hn := rfl); exact lk; exact rfl; exact rfl; exact ck)
      apply WO_ia (hn := rfl)
      exact lk
      exact lk
      · rw [show (i : Int) + (k : Int) = ((i + k : Nat) : Int) from rfl]
        exact ia_msl ty34 (by omega)
      apply WO_st
      exact lk
      exact lk
      · rw [Nat.zero_add]; exact st_msl ty68 hb (by omega)
      skip
      refine WO_nil ?_; show WC E _ _ _; repeat first | refine WC_seq ?_ | refine WC_block ?_ | refine WC_region ?_
      (apply WO_mv (hn := rfl); exact lk; apply WO_bin (hn := rfl); exact lk; exact lk; exact bk; apply WO_as (hn := rfl); exact lk)
      refine WO_nil ?_; show WC E _ _ _; repeat first | refine WC_seq ?_ | refine WC_block ?_ | refine WC_region ?_
      (apply WO_bin (hn := rfl); exact lk; exact lk; exact bk; apply WO_mv (hn := rfl); exact lk)
      refine WO_nil ?_
      refine ⟨j2 - 1, by omega, _, _, k + 1, d.set (i + k) ((cr + (u * w + z)) % 4294967296), (cr + (u * w + z)) / 4294967296, rfl, gk, gk, gk, gk, gk, gk, gk, gk, gk, gk, gk, by rw [PM.get_upd, if_pos rfl], by simpa using hd, hod.set (Nat.mod_lt _ BB_pos), by omega, by omega, by omega, ?_, ?_⟩
      · rw [← Nat.add_assoc, drop_set_of_lt (by omega)]
        exact drop_succ_of hdd
      · rw [← Nat.add_assoc]
        refine put_carry (by omega) ?_
        have hz3 : c[i + k]? = some z := by rw [← get_of_drop hdd]; exact hz1
        rw [nv_take_succ hz3, nv_take_succ hw1]
        have e : BB ^ i * u * (nv (B.take k) + BB ^ k * w) = BB ^ i * u * nv (B.take k) + BB ^ (i + k) * (u * w) := by
          rw [Nat.mul_add, Nat.pow_add, Nat.mul_assoc (BB ^ i) u (BB ^ k * w), Nat.mul_left_comm u (BB ^ k) w, Nat.mul_assoc, Nat.mul_assoc (BB ^ i) (BB ^ k)]
        rw [e, Nat.mul_add, Nat.mul_add]
        omega
    · intro hlt2
      have hlt2 : k = B.length := by simp at hlt2; omega
      subst hlt2
      refine WC_exit ?_
      show WC E _ _ _; repeat first | refine WC_seq ?_ | refine WC_block ?_ | refine WC_region ?_
      (apply WO_mv (hn := rfl); exact lk; apply WO_mv (hn := rfl); exact lk; apply WO_mv (hn := rfl); exact lk; apply WO_b1 (hn := rfl) (hb := rfl); exact lk; exact nk; apply WO_bin (hn := rfl); exact lk; exact lk; exact bk; apply WO_mv (hn := rfl); exact lk; apply WO_cv (hn := rfl); exact lk; exact rfl; exact rfl; exact ck)
      apply WO_ia (hn := rfl)
      exact lk
      exact lk
      · rw [show (i : Int) + (B.length : Int) = ((i + B.length : Nat) : Int) from rfl]
        exact ia_msl ty34 (by omega)
      apply WO_st
      exact lk
      exact lk
      · rw [Nat.zero_add]; exact st_msl ty68 hb (by omega)
      skip
      refine WO_nil ?_; show WC E _ _ _; repeat first | refine WC_seq ?_ | refine WC_block ?_ | refine WC_region ?_
      (apply WO_bin (hn := rfl); exact lk; exact lk; exact bk; apply WO_mv (hn := rfl); exact lk)
      refine WO_nil ?_
      refine ⟨j - 1, by omega, _, _, i + 1, d.set (i + B.length) (cr % 4294967296), rfl, gk, gk, gk, gk, gk, by rw [PM.get_upd, if_pos rfl], by simpa using hd, hod.set (Nat.mod_lt _ BB_pos), by omega, by omega, ?_⟩
      rw [show i + 1 + B.length = i + B.length + 1 by omega, nv_set_take (by omega), Nat.mod_eq_of_lt hcr, hw, hv, nv_take_succ hu, nv_take_all (Nat.le_refl _), Nat.add_mul]
  · intro hlt
    have hlt : i = A.length := by simp at hlt; omega
    subst hlt
    refine WC_exit ?_
    show WC E _ _ _; repeat first | refine WC_seq ?_ | refine WC_block ?_ | refine WC_region ?_
    (apply WO_mv (hn := rfl); exact lk)
    have hc2 : nv c = x * y := by
      rw [← nv_take_all (c := c) (n := A.length + B.length) (by omega), hv, nv_take_all (Nat.le_refl _), hxA, hyB]
    obtain ⟨r, hr1, hr2⟩ := nat_trim (a := c) (.inr ⟨none, rfl⟩) hoc (by omega)
    rw [hc2] at hr1
    obtain ⟨m', hm'⟩ := ev_msl (f := 176) rfl rfl rfl hb rfl hc.symm (hr2 _)
    apply WO_ca (hn := rfl) r m'
    · exact evs1 lk
    · exact hm'
    (apply WO_as (hn := rfl); exact lk)
    refine WO_nil ?_
    show WC E _ _ _
    refine WC_ret (fin1 rfl ex_ret rfl get_hit ?_)
    obtain ⟨q3, m3, h3, h4⟩ := Lim.rd hr1 m' 11
    exact ⟨q3, m3, h3, h4⟩
end Go.Ab.T
/- bits.Div32, Sub32, Add32; nat.small, nat.Sub. -/
open Go Go.Ab
namespace Go.Ab.T
set_option maxRecDepth 10000
set_option maxHeartbeats 1000000
set_option linter.unusedSimpArgs false
attribute [local irreducible] Tr.get Tr.set

/-- the end of a function that returns two temporaries -/
theorem fin2 {fn : Func} {t u : Nat} {v w : PV} {R : PV → PM → Prop} (hr : fn.results.toList = [.tmp t, .tmp u]) {x : Ex} (hx : ∀ i, x ≠ .exit i) {s : St} (hd : s.df = []) (h : s.tm.get t = some v) (h' : s.tm.get u = some w) (hR : R (.tup [v, w]) s.me) : BodyQ E fn R x s := by
  refine ⟨hx, by rw [hd]; rfl, [v, w], ?_, hR⟩
  rw [hr]
  simp only [resultsOf, evo_t h, evo_t h']

theorem bits_Div32 {hi lo y : Nat} (hh : hi < y) (hl : lo < 4294967296) (hy : y < 4294967296) (m : PM) : Ev E 282 [.int .u32 (hi : Int), .int .u32 (lo : Int), .int .u32 (y : Int)] m (.tup [.int .u32 (((hi * 4294967296 + lo) / y : Nat) : Int), .int .u32 (((hi * 4294967296 + lo) % y : Nat) : Int)]) m := by
  refine Ev_iso rfl rfl rfl rfl (fn := Go.Proofs.Tryz.f282) rfl rfl rfl ?_ m
  show WC E _ ⟨((Tr.leaf.set 0 _).set 1 _).set 2 _, 33, _, _⟩ _
  repeat first | refine WC_seq ?_ | refine WC_block ?_ | refine WC_region ?_
  (apply WO_as (hn := rfl); exact lk; apply WO_as (hn := rfl); exact lk)
  refine WO_nil ?_; show WC E _ _ _; repeat first | refine WC_seq ?_ | refine WC_block ?_ | refine WC_region ?_
  (apply WO_mv (hn := rfl); exact lk; apply WO_bin (hn := rfl); exact lk; exact lk; exact bk; apply WO_mv (hn := rfl); exact lk; apply WO_gt; exact uk; apply WO_mv (hn := rfl); exact lk; apply WO_gt; exact uk; apply WO_mv (hn := rfl); exact lk; apply WO_gt; exact uk; apply WO_bin (hn := rfl); exact lk; exact lk; exact bk)
  apply WO_pk (hn := rfl)
  exact lk
  · rw [show (!decide ((y : Int) = 0)) = true by simp; omega]
    exact lk
  refine WO_nil ?_
  show WC E _ _ _
  apply WC_false
  · apply condOf_t
    rw [show (false : Bool) = decide ((y : Int) ≤ (hi : Int)) from (decide_eq_false (by omega)).symm]
    exact lk
  refine WC_skip ?_
  show WC E _ _ _; repeat first | refine WC_seq ?_ | refine WC_block ?_ | refine WC_region ?_
  (apply WO_mv (hn := rfl); exact lk; apply WO_cv (hn := rfl); exact lk; exact rfl; exact rfl; exact ck; apply WO_bin (hn := rfl); exact lk; exact lk; exact bk; apply WO_mv (hn := rfl); exact lk; apply WO_cv (hn := rfl); exact lk; exact rfl; exact rfl; exact ck)
  have hhh : hi * 2 ^ 32 % 18446744073709551616 = hi * 2 ^ 32 := Nat.mod_eq_of_lt (by omega)
  apply WO_bin (hn := rfl)
  exact lk
  exact lk
  · rw [hhh]; exact b_orU (by omega) (by omega)
  rw [or_hi hl]
  (apply WO_as (hn := rfl); exact lk)
  refine WO_nil ?_; show WC E _ _ _; repeat first | refine WC_seq ?_ | refine WC_block ?_ | refine WC_region ?_
  (apply WC_draw; (focus exact rfl))
  (apply WD_mv (hn := rfl); exact lk; apply WD_mv (hn := rfl); exact lk; apply WD_cv (hn := rfl); exact lk; exact rfl; exact rfl; exact ck)
  apply WD_bin (hn := rfl)
  exact lk
  exact lk
  · exact b_quoU (by omega) (by omega)
  have hq : (hi * 4294967296 + lo) / y < 4294967296 := (Nat.div_lt_iff_lt_mul (by omega)).2 (by
    have := Nat.mul_le_mul_left 4294967296 (show hi + 1 ≤ y by omega)
    omega)
  have hr : (hi * 4294967296 + lo) % y < 4294967296 := Nat.lt_trans (Nat.mod_lt _ (by omega)) hy
  have e1 : (hi * 4294967296 + lo) / y % 4294967296 = (hi * 4294967296 + lo) / y := Nat.mod_eq_of_lt hq
  have e2 : (hi * 4294967296 + lo) % y % 4294967296 = (hi * 4294967296 + lo) % y := Nat.mod_eq_of_lt hr
  (apply WD_cv (hn := rfl); exact lk; exact rfl; exact rfl; exact ck; apply WD_mv (hn := rfl); exact lk; apply WD_mv (hn := rfl); exact lk; apply WD_cv (hn := rfl); exact lk; exact rfl; exact rfl; exact ck)
  apply WD_bin (hn := rfl)
  exact lk
  exact lk
  · exact b_remU (by omega)
  (apply WD_cv (hn := rfl); exact lk; exact rfl; exact rfl; exact ck; apply WD_as (hn := rfl); exact lk; apply WD_as (hn := rfl); exact lk)
  refine WD_nil ⟨rfl, ?_⟩
  show WC E _ _ _
  refine WC_ret ?_
  refine fin2 rfl ex_ret rfl gk gk ?_
  rw [e1, e2]
  exact ⟨_, reify_t2 rfl rfl⟩

theorem bits_Sub32 {x y c : Nat} (hx : x < 4294967296) (hy : y < 4294967296) (hc : c ≤ 1) (m : PM) : Ev E 328 [.int .u32 (x : Int), .int .u32 (y : Int), .int .u32 (c : Int)] m (.tup [.int .u32 (((x + (4294967296 - y)) % 4294967296 + (4294967296 - c)) % 4294967296 : Nat), .int .u32 ((if x < y + c then 1 else 0 : Nat) : Int)]) m := by
  refine Ev_iso rfl rfl rfl rfl (fn := Go.Proofs.Tryz.f328) rfl rfl rfl ?_ m
  show WC E _ ⟨((Tr.leaf.set 0 _).set 1 _).set 2 _, 25, _, _⟩ _
  generalize hd : ((x + (4294967296 - y)) % 4294967296 + (4294967296 - c)) % 4294967296 = d
  have hd2 : d < 4294967296 := by omega
  have k1 : 4294967295 ^^^ x < 2 ^ 32 := Nat.xor_lt_two_pow (by decide) hx
  have k2 : x ^^^ y < 2 ^ 32 := Nat.xor_lt_two_pow hx hy
  have k3 : 4294967295 ^^^ (x ^^^ y) < 2 ^ 32 := Nat.xor_lt_two_pow (by decide) k2
  have k4 : (4294967295 ^^^ x) &&& y < 4294967296 := Nat.lt_of_le_of_lt Nat.and_le_right hy
  have k5 : (4294967295 ^^^ (x ^^^ y)) &&& d < 4294967296 := Nat.lt_of_le_of_lt Nat.and_le_right hd2
  repeat first | refine WC_seq ?_ | refine WC_block ?_ | refine WC_region ?_
  (apply WO_as (hn := rfl); exact lk; apply WO_as (hn := rfl); exact lk)
  refine WO_nil ?_; show WC E _ _ _; repeat first | refine WC_seq ?_ | refine WC_block ?_ | refine WC_region ?_
  (apply WO_mv (hn := rfl); exact lk; apply WO_mv (hn := rfl); exact lk)
  apply WO_bin (hn := rfl)
  exact lk
  exact lk
  · exact b_sub32 (by omega)
  (apply WO_mv (hn := rfl); exact lk)
  apply WO_bin (hn := rfl)
  exact lk
  exact lk
  · exact b_sub32 (by omega)
  rw [hd]
  (apply WO_as (hn := rfl); exact lk)
  refine WO_nil ?_; show WC E _ _ _; repeat first | refine WC_seq ?_ | refine WC_block ?_ | refine WC_region ?_
  (apply WO_mv (hn := rfl); exact lk)
  apply WO_un (hn := rfl)
  exact lk
  · exact u_xor32 hx
  (apply WO_mv (hn := rfl); exact lk)
  apply WO_bin (hn := rfl)
  exact lk
  exact lk
  · exact b_and32 k1 hy
  (apply WO_mv (hn := rfl); exact lk; apply WO_mv (hn := rfl); exact lk)
  apply WO_bin (hn := rfl)
  exact lk
  exact lk
  · exact b_xor32 hx hy
  apply WO_un (hn := rfl)
  exact lk
  · exact u_xor32 k2
  (apply WO_mv (hn := rfl); exact lk)
  apply WO_bin (hn := rfl)
  exact lk
  exact lk
  · exact b_and32 k3 hd2
  apply WO_bin (hn := rfl)
  exact lk
  exact lk
  · exact b_or32 k4 k5
  (apply WO_bin (hn := rfl); exact lk; exact lk; exact bk; apply WO_as (hn := rfl); exact lk)
  refine WO_nil ?_
  show WC E _ _ _
  refine WC_ret ?_
  refine fin2 rfl ex_ret rfl gk gk ?_
  rw [sub32_borrow hx hy hc hd.symm]
  exact ⟨_, reify_t2 rfl rfl⟩

theorem bits_Add32 {x y c : Nat} (hx : x < 4294967296) (hy : y < 4294967296) (hc : c ≤ 1) (m : PM) : Ev E 329 [.int .u32 (x : Int), .int .u32 (y : Int), .int .u32 (c : Int)] m (.tup [.int .u32 (((x + y + c) % 4294967296 : Nat) : Int), .int .u32 (((x + y + c) / 4294967296 : Nat) : Int)]) m := by
  refine Ev_iso rfl rfl rfl rfl (fn := Go.Proofs.Tryz.f329) rfl rfl rfl ?_ m
  show WC E _ ⟨((Tr.leaf.set 0 _).set 1 _).set 2 _, 22, _, _⟩ _
  repeat first | refine WC_seq ?_ | refine WC_block ?_ | refine WC_region ?_
  (apply WO_as (hn := rfl); exact lk; apply WO_as (hn := rfl); exact lk)
  refine WO_nil ?_; show WC E _ _ _; repeat first | refine WC_seq ?_ | refine WC_block ?_ | refine WC_region ?_
  (apply WO_mv (hn := rfl); exact lk; apply WO_cv (hn := rfl); exact lk; exact rfl; exact rfl; exact ck; apply WO_mv (hn := rfl); exact lk; apply WO_cv (hn := rfl); exact lk; exact rfl; exact rfl; exact ck; apply WO_bin (hn := rfl); exact lk; exact lk; exact bk; apply WO_mv (hn := rfl); exact lk; apply WO_cv (hn := rfl); exact lk; exact rfl; exact rfl; exact ck; apply WO_bin (hn := rfl); exact lk; exact lk; exact bk; apply WO_as (hn := rfl); exact lk)
  refine WO_nil ?_; show WC E _ _ _; repeat first | refine WC_seq ?_ | refine WC_block ?_ | refine WC_region ?_
  (apply WO_mv (hn := rfl); exact lk; apply WO_cv (hn := rfl); exact lk; exact rfl; exact rfl; exact ck; apply WO_as (hn := rfl); exact lk)
  refine WO_nil ?_; show WC E _ _ _; repeat first | refine WC_seq ?_ | refine WC_block ?_ | refine WC_region ?_
  (apply WO_mv (hn := rfl); exact lk; apply WO_bin (hn := rfl); exact lk; exact lk; exact bk; apply WO_cv (hn := rfl); exact lk; exact rfl; exact rfl; exact ck; apply WO_as (hn := rfl); exact lk)
  refine WO_nil ?_
  show WC E _ _ _
  refine WC_ret ?_
  refine fin2 rfl ex_ret rfl gk gk ?_
  rw [show (x + y + c) / 2 ^ 32 % 4294967296 = (x + y + c) / 4294967296 by omega]
  exact ⟨_, reify_t2 rfl rfl⟩
end Go.Ab.T
/- nat.small, nat.Sub. -/
open Go Go.Ab
namespace Go.Ab.T
set_option maxRecDepth 10000
set_option maxHeartbeats 1000000
set_option linter.unusedSimpArgs false
attribute [local irreducible] Tr.get Tr.set

theorem nat_small {a : List Nat} {p : PV} {y : Nat} (h : Lim a p) (ho : Ok a) (hl : a.length < 900000) (hy0 : y ≠ 0) (hy : y < 4294967296) : ∃ r, Lim (lm (nv a / y)) r ∧ ∀ m, Ev E 235 [p, .int .u32 (y : Int)] m (.tup [r, .int .u32 ((nv a % y : Nat) : Int)]) m := by
  suffices hh : ∃ q, (∃ r, q = .tup [r, .int .u32 ((nv a % y : Nat) : Int)] ∧ Lim (lm (nv a / y)) r) ∧ ∀ m, Ev E 235 [p, .int .u32 (y : Int)] m q m by
    obtain ⟨q, ⟨r, rfl, h1⟩, h2⟩ := hh
    exact ⟨r, h1, h2⟩
  refine Ev_isoE rfl rfl rfl (flats2 h.flat rfl) (fn := Go.Proofs.Tryz.f235) rfl rfl rfl ?_
  show WC E _ ⟨(Tr.leaf.set 0 p).set 1 _, 35, _, _⟩ _
  repeat first | refine WC_seq ?_ | refine WC_block ?_ | refine WC_region ?_
  (apply WO_as (hn := rfl); exact lk; apply WO_as (hn := rfl); exact lk)
  refine WO_nil ?_; show WC E _ _ _; repeat first | refine WC_seq ?_ | refine WC_block ?_ | refine WC_region ?_
  (apply WO_mv (hn := rfl); exact lk; apply WO_b1 (hn := rfl) (hb := rfl); exact lk; exact nk)
  apply WO_mk (hn := rfl)
  exact lk
  exact lk
  · exact mk_msl ty34 (n := a.length) (by omega)
  (apply WO_as (hn := rfl); exact lk)
  refine WO_nil ?_; show WC E _ _ _; repeat first | refine WC_seq ?_ | refine WC_block ?_ | refine WC_region ?_
  (apply WO_as (hn := rfl); exact lk)
  refine WO_nil ?_; show WC E _ _ _; repeat first | refine WC_seq ?_ | refine WC_block ?_ | refine WC_region ?_
  (apply WO_mv (hn := rfl); exact lk; apply WO_b1 (hn := rfl) (hb := rfl); exact lk; exact nk; apply WO_bin (hn := rfl); exact lk; exact lk; exact bk; apply WO_as (hn := rfl); exact lk)
  refine WO_nil ?_; show WC E _ _ _; repeat first | refine WC_seq ?_ | refine WC_block ?_ | refine WC_region ?_
  refine WC_loop (fun j s => ∃ (tm : Tr PV) (me : PM) (c : List Nat) (rs : Nat), s = ⟨tm, 35, me, []⟩ ∧ tm.get 0 = some p ∧ tm.get 1 = some (.int .u32 (y : Int)) ∧ tm.get 8 = some (.int .i64 ((j : Int) - 1)) ∧ tm.get 6 = some (.msl 0 0 0 a.length 1) ∧ tm.get 7 = some (.int .u32 (rs : Int)) ∧
    me.get 0 = some (.cells (cu c) 0 false 68) ∧ c.length = a.length ∧ Ok c ∧ j ≤ a.length ∧ rs < y ∧ nv (a.drop j) = nv (c.drop j) * y + rs) a.length
    ⟨_, _, List.replicate a.length 0, 0, rfl, gk, gk, gk, gk, gk, by rw [PM.get_new]; exact if_pos rfl, by simp, .replicate, by omega, by omega, by simp [nv]⟩ ?_
  rintro j s ⟨tm, me, c, rs, rfl, h0, h1, h8, h6, h7, hb, hc, hoc, hj, hrs, hv⟩
  repeat first | refine WC_seq ?_ | refine WC_block ?_ | refine WC_region ?_
  (apply WO_mv (hn := rfl); exact lk; apply WO_bin (hn := rfl); exact lk; exact lk; exact bk)
  refine WO_nil ?_; show WC E _ _ _; repeat first | refine WC_seq ?_ | refine WC_block ?_ | refine WC_region ?_
  apply WC_cond; (focus (apply condOf_t; (focus (first | (apply evo_t; (repeat (first | exact get_hit | assumption | refine get_miss rfl ?_ | fail)); done) | (exact rfl) | fail))))
  · intro hlt
    have hlt : j ≠ 0 := by simp at hlt; omega
    have hjj : (j : Int) - 1 = ((j - 1 : Nat) : Int) := by omega
    rw [hjj] at h8 ⊢
    obtain ⟨u, hu⟩ : ∃ u, a[j - 1]? = some u := ⟨_, List.getElem?_eq_getElem (by omega)⟩
    have hu2 : u < 4294967296 := ho.get hu
    have hq : (rs * 4294967296 + u) / y < 4294967296 := (Nat.div_lt_iff_lt_mul (by omega)).2 (by
      have := Nat.mul_le_mul_left 4294967296 (show rs + 1 ≤ y by omega)
      omega)
    refine WC_skip ?_
    show WC E _ _ _; repeat first | refine WC_seq ?_ | refine WC_block ?_ | refine WC_region ?_
    (apply WO_mv (hn := rfl); exact lk; apply WO_mv (hn := rfl); exact lk; apply WO_mv (hn := rfl); exact lk; apply WO_mv (hn := rfl); exact lk; apply WO_mv (hn := rfl); exact lk)
    apply WO_ia (hn := rfl)
    exact lk
    exact lk
    · exact ia_lim ty34 h (by omega)
    apply WO_ld (hn := rfl)
    exact lk
    · exact ld_lim ty68 hu
    (apply WO_mv (hn := rfl); exact lk)
    apply WO_ca (hn := rfl) (.tup [.int .u32 (((rs * 4294967296 + u) / y : Nat) : Int), .int .u32 (((rs * 4294967296 + u) % y : Nat) : Int)]) me
    · apply evs3
      exact lk
      exact lk
      exact lk
    · exact bits_Div32 hrs hu2 hy me
    (apply WO_mv (hn := rfl); exact lk; apply WO_ex (hn := rfl); exact lk; exact rfl; apply WO_ex (hn := rfl); exact lk; exact rfl)
    apply WO_ia (hn := rfl)
    exact lk
    exact lk
    · exact ia_msl ty34 (by omega)
    apply WO_st
    exact lk
    exact lk
    · rw [Nat.zero_add]; exact st_msl ty68 hb (by omega)
    (apply WO_as (hn := rfl); exact lk)
    refine WO_nil ?_; show WC E _ _ _; repeat first | refine WC_seq ?_ | refine WC_block ?_ | refine WC_region ?_
    (apply WO_mv (hn := rfl); exact lk; apply WO_bin (hn := rfl); exact lk; exact lk; exact bk; apply WO_as (hn := rfl); exact lk)
    refine WO_nil ?_
    refine ⟨j - 1, by omega, _, _, c.set (j - 1) ((rs * 4294967296 + u) / y), (rs * 4294967296 + u) % y, rfl, gk, gk, gk, gk, gk, by rw [PM.get_upd, if_pos rfl], by simpa using hc, hoc.set hq, by omega, Nat.mod_lt _ (by omega), ?_⟩
    have e1 := nv_drop hu
    have e2 := nv_drop (a := c.set (j - 1) ((rs * 4294967296 + u) / y)) (i := j - 1) (x := (rs * 4294967296 + u) / y) (List.getElem?_set_self (by omega))
    rw [show j - 1 + 1 = j by omega] at e1 e2
    rw [drop_set_of_lt (j := j) (by omega)] at e2
    rw [e1, e2, hv, BB_eq, Nat.add_mul, Nat.mul_assoc, Nat.mul_add]
    have := Nat.div_add_mod (rs * 4294967296 + u) y
    rw [Nat.mul_comm y] at this
    omega
  · intro hlt
    have hlt : j = 0 := by simp at hlt; omega
    subst hlt
    refine WC_exit ?_
    show WC E _ _ _; repeat first | refine WC_seq ?_ | refine WC_block ?_ | refine WC_region ?_
    (apply WO_mv (hn := rfl); exact lk)
    rw [List.drop_zero, List.drop_zero] at hv
    have e1 : nv a / y = nv c := by
      rw [hv, Nat.mul_comm, Nat.mul_add_div (by omega), Nat.div_eq_of_lt hrs, Nat.add_zero]
    have e2 : nv a % y = rs := by
      rw [hv, Nat.mul_comm, Nat.mul_add_mod, Nat.mod_eq_of_lt hrs]
    obtain ⟨r, hr1, hr2⟩ := nat_trim (a := c) (.inr ⟨none, rfl⟩) hoc (by omega)
    obtain ⟨m', hm'⟩ := ev_msl (f := 176) rfl rfl rfl hb rfl hc.symm (hr2 _)
    apply WO_ca (hn := rfl) r m'
    · exact evs1 lk
    · exact hm'
    (apply WO_mv (hn := rfl); exact lk; apply WO_as (hn := rfl); exact lk; apply WO_as (hn := rfl); exact lk)
    refine WO_nil ?_
    show WC E _ _ _
    refine WC_ret (fin2 rfl ex_ret rfl gk gk ?_)
    rw [e1, e2]
    exact ⟨_, m', reify_t2 hr1.flat rfl, r, rfl, hr1⟩

theorem nat_Sub {a b : List Nat} {p q : PV} (h : Lim a p) (h' : Lim b q) (ho : Ok a) (ho' : Ok b) (hl : a.length < 900000) (hl' : b.length < 900000) :
    (nv b ≤ nv a → ∃ r, Lim (lm (nv a - nv b)) r ∧ ∀ m, Ev E 336 [p, q] m (.tup [r, .bool true]) m) ∧ (nv a < nv b → ∀ m, Ev E 336 [p, q] m (.tup [.nils, .bool false]) m) := by
  have hcmp := nat_Cmp h h' ho ho' (by omega) (by omega)
  obtain ⟨pA, hA, hp2⟩ := nat_trim h ho (by omega)
  obtain ⟨pB, hB, hq2⟩ := nat_trim h' ho' (by omega)
  have hla : (lm (nv a)).length < 900000 := Nat.lt_of_le_of_lt (lm_le ho) hl
  have hlb : (lm (nv b)).length < 900000 := Nat.lt_of_le_of_lt (lm_le ho') hl'
  generalize hx : nv a = x at *
  generalize hy : nv b = y at *
  have pre : ∀ Φ : PV → Prop, (x < y → Φ (.tup [.nils, .bool false])) → (y ≤ x → ∀ r, Lim (lm (x - y)) r → Φ (.tup [r, .bool true])) → ∃ v, Φ v ∧ ∀ m, Ev E 336 [p, q] m v m := by
    intro Φ hf ht
    refine Ev_isoE rfl rfl rfl (flats2 h.flat h'.flat) (fn := Go.Proofs.Tryz.f336) rfl rfl rfl ?_
    show WC E _ ⟨(Tr.leaf.set 0 p).set 1 q, 50, _, _⟩ _
    repeat first | refine WC_seq ?_ | refine WC_block ?_ | refine WC_region ?_
    (apply WO_as (hn := rfl); exact lk; apply WO_as (hn := rfl); exact lk)
    refine WO_nil ?_; show WC E _ _ _; repeat first | refine WC_seq ?_ | refine WC_block ?_ | refine WC_region ?_
    (apply WO_mv (hn := rfl); exact lk; apply WO_mv (hn := rfl); exact lk)
    apply WO_ca (hn := rfl) (.int .i64 (cmpI x y)) PM.empty
    · apply evs2
      exact lk
      exact lk
    · exact hcmp _
    (apply WO_bin (hn := rfl); exact lk; exact lk; exact bk)
    refine WO_nil ?_; show WC E _ _ _; repeat first | refine WC_seq ?_ | refine WC_block ?_ | refine WC_region ?_
    apply WC_cond; (focus (apply condOf_t; (focus (first | (apply evo_t; (repeat (first | exact get_hit | assumption | refine get_miss rfl ?_ | fail)); done) | (exact rfl) | fail))))
    · intro hlt
      have hlt : x < y := by
        unfold cmpI at hlt
        split at hlt
        · assumption
        · split at hlt <;> simp at hlt
      repeat first | refine WC_seq ?_ | refine WC_block ?_ | refine WC_region ?_
      (apply WO_as (hn := rfl); exact lk; apply WO_as (hn := rfl); exact lk)
      refine WO_nil ?_
      show WC E _ _ _
      refine WC_ret ?_
      show BodyQ _ _ _ _ _
      refine fin2 rfl ex_ret rfl gk gk ?_
      exact ⟨_, _, reify_t2 rfl rfl, hf hlt⟩
    · intro hlt
      have hle : y ≤ x := by
        refine Nat.le_of_not_lt fun hh => ?_
        unfold cmpI at hlt
        rw [if_pos hh] at hlt
        simp at hlt
      clear hlt
      have hlen : (lm y).length ≤ (lm x).length := lm_mono hle
      have hoA := ok_lm x
      have hoB := ok_lm y
      have hxA := nv_lm x
      have hyB := nv_lm y
      generalize lm x = A at *
      generalize lm y = B at *
      refine WC_skip ?_
      show WC E _ _ _; repeat first | refine WC_seq ?_ | refine WC_block ?_ | refine WC_region ?_
      (apply WO_mv (hn := rfl); exact lk)
      apply WO_ca (hn := rfl) pA PM.empty
      · exact evs1 lk
      · exact hp2 _
      (apply WO_mv (hn := rfl); exact lk)
      apply WO_ca (hn := rfl) pB PM.empty
      · exact evs1 lk
      · exact hq2 _
      (apply WO_as (hn := rfl); exact lk; apply WO_as (hn := rfl); exact lk)
      refine WO_nil ?_; show WC E _ _ _; repeat first | refine WC_seq ?_ | refine WC_block ?_ | refine WC_region ?_
      (apply WO_mv (hn := rfl); exact lk; apply WO_b1 (hn := rfl) (hb := rfl); exact lk; exact nk)
      apply WO_mk (hn := rfl)
      exact lk
      exact lk
      · exact mk_msl ty34 (n := A.length) (by omega)
      (apply WO_as (hn := rfl); exact lk)
      refine WO_nil ?_; show WC E _ _ _; repeat first | refine WC_seq ?_ | refine WC_block ?_ | refine WC_region ?_
      (apply WO_as (hn := rfl); exact lk)
      refine WO_nil ?_; show WC E _ _ _; repeat first | refine WC_seq ?_ | refine WC_block ?_ | refine WC_region ?_
      (apply WO_mv (hn := rfl); exact lk; apply WO_b1 (hn := rfl) (hb := rfl); exact lk; exact nk; apply WO_mv (hn := rfl); exact lk)
      refine WO_nil ?_; show WC E _ _ _; repeat first | refine WC_seq ?_ | refine WC_block ?_ | refine WC_region ?_
      refine WC_loop (fun j s => ∃ (tm : Tr PV) (me : PM) (i : Nat) (c : List Nat) (bo : Nat), s = ⟨tm, 50, me, []⟩ ∧ tm.get 1 = some pB ∧ tm.get 22 = some pA ∧ tm.get 23 = some (.int .i64 (A.length : Int)) ∧ tm.get 24 = some (.int .i64 (i : Int)) ∧ tm.get 7 = some (.int .u32 (bo : Int)) ∧ tm.get 6 = some (.msl 0 0 0 A.length 1) ∧
        me.get 0 = some (.cells (cu c) 0 false 68) ∧ c.length = A.length ∧ Ok c ∧ i ≤ A.length ∧ j = A.length - i ∧ bo ≤ 1 ∧ nv (c.take i) + nv (B.take i) = nv (A.take i) + BB ^ i * bo) A.length
        ⟨_, _, 0, List.replicate A.length 0, 0, rfl, gk, gk, gk, gk, gk, gk, by rw [PM.get_new]; exact if_pos rfl, by simp, .replicate, by omega, by omega, by omega, by simp [nv]⟩ ?_
      rintro j s ⟨tm, me, i, c, bo, rfl, h1, h22, h23, h24, h7, h6, hb, hc, hoc, hi, hj, hbo, hv⟩
      repeat first | refine WC_seq ?_ | refine WC_block ?_ | refine WC_region ?_
      (apply WO_bin (hn := rfl); exact lk; exact lk; exact bk)
      refine WO_nil ?_; show WC E _ _ _; repeat first | refine WC_seq ?_ | refine WC_block ?_ | refine WC_region ?_
      apply WC_cond; (focus (apply condOf_t; (focus (first | (apply evo_t; (repeat (first | exact get_hit | assumption | refine get_miss rfl ?_ | fail)); done) | (exact rfl) | fail))))
      · intro hlt
        have hlt : i < A.length := by simp at hlt; omega
        obtain ⟨u, hu⟩ : ∃ u, A[i]? = some u := ⟨_, List.getElem?_eq_getElem hlt⟩
        have hu2 : u < 4294967296 := hoA.get hu
        refine WC_skip ?_
        show WC E _ _ _; repeat first | refine WC_seq ?_ | refine WC_block ?_ | refine WC_region ?_
        (apply WO_mv (hn := rfl); exact lk)
        apply WO_ia (hn := rfl)
        exact lk
        exact lk
        · exact ia_lim ty34 hA hlt
        apply WO_ld (hn := rfl)
        exact lk
        · exact ld_lim ty68 hu
        (apply WO_as (hn := rfl); exact lk; apply WO_as (hn := rfl); exact lk)
        refine WO_nil ?_; show WC E _ _ _; repeat first | refine WC_seq ?_ | refine WC_block ?_ | refine WC_region ?_
        (apply WO_as (hn := rfl); exact lk)
        refine WO_nil ?_; show WC E _ _ _; repeat first | refine WC_seq ?_ | refine WC_block ?_ | refine WC_region ?_
        (apply WO_mv (hn := rfl); exact lk; apply WO_mv (hn := rfl); exact lk; apply WO_b1 (hn := rfl) (hb := rfl); exact lk; exact nk; apply WO_bin (hn := rfl); exact lk; exact lk; exact bk)
        refine WO_nil ?_; show WC E _ _ _; repeat first | refine WC_seq ?_ | refine WC_block ?_ | refine WC_region ?_
        have hB2 : B[i]?.getD 0 < 4294967296 := by
          cases hw : B[i]? with
          | none => decide
          | some w => exact hoB.get hw
        refine WC.mono (Q := fun xx s' => xx = .nrm ∧ ∃ tm, s' = ⟨tm, 50, me, []⟩ ∧ tm.get 1 = some pB ∧ tm.get 22 = some pA ∧ tm.get 23 = some (.int .i64 (A.length : Int)) ∧ tm.get 24 = some (.int .i64 (i : Int)) ∧ tm.get 8 = some (.int .i64 (i : Int)) ∧ tm.get 9 = some (.int .u32 (u : Int)) ∧ tm.get 10 = some (.int .u32 ((B[i]?.getD 0 : Nat) : Int)) ∧ tm.get 7 = some (.int .u32 (bo : Int)) ∧ tm.get 6 = some (.msl 0 0 0 A.length 1)) ?_ ?_
        · apply WC_cond; (focus (apply condOf_t; (focus (first | (apply evo_t; (repeat (first | exact get_hit | assumption | refine get_miss rfl ?_ | fail)); done) | (exact rfl) | fail))))
          · intro hlb
            have hlb : i < B.length := by simp at hlb; omega
            obtain ⟨w, hw⟩ : ∃ w, B[i]? = some w := ⟨_, List.getElem?_eq_getElem hlb⟩
            repeat first | refine WC_seq ?_ | refine WC_block ?_ | refine WC_region ?_
            (apply WO_mv (hn := rfl); exact lk; apply WO_mv (hn := rfl); exact lk)
            apply WO_ia (hn := rfl)
            exact lk
            exact lk
            · exact ia_lim ty34 hB hlb
            apply WO_ld (hn := rfl)
            exact lk
            · exact ld_lim ty68 hw
            (apply WO_as (hn := rfl); exact lk)
            refine WO_nil ⟨rfl, _, rfl, gk, gk, gk, gk, gk, gk, ?_, gk, gk⟩
            rw [hw]
            exact get_hit
          · intro hlb
            have hlb : ¬ i < B.length := by simp at hlb; omega
            refine WC_skip ⟨rfl, _, rfl, gk, gk, gk, gk, gk, gk, ?_, gk, gk⟩
            rw [List.getElem?_eq_none (by omega)]
            (repeat (first | exact get_hit | assumption | refine get_miss rfl ?_ | fail))
        generalize hW : B[i]?.getD 0 = w at *
        rintro _ _ ⟨rfl, tm2, rfl, h1, h22, h23, h24, h8, h9, h10, h7, h6⟩
        show WC E _ _ _; repeat first | refine WC_seq ?_ | refine WC_block ?_ | refine WC_region ?_
        (apply WO_mv (hn := rfl); exact lk; apply WO_mv (hn := rfl); exact lk; apply WO_mv (hn := rfl); exact lk; apply WO_mv (hn := rfl); exact lk; apply WO_mv (hn := rfl); exact lk)
        apply WO_ca (hn := rfl) (.tup [.int .u32 (((u + (4294967296 - w)) % 4294967296 + (4294967296 - bo)) % 4294967296 : Nat), .int .u32 ((if u < w + bo then 1 else 0 : Nat) : Int)]) me
        · apply evs3
          exact lk
          exact lk
          exact lk
        · exact bits_Sub32 hu2 hB2 hbo me
        (apply WO_mv (hn := rfl); exact lk; apply WO_ex (hn := rfl); exact lk; exact rfl; apply WO_ex (hn := rfl); exact lk; exact rfl)
        apply WO_ia (hn := rfl)
        exact lk
        exact lk
        · exact ia_msl ty34 (by omega)
        apply WO_st
        exact lk
        exact lk
        · rw [Nat.zero_add]; exact st_msl ty68 hb (by omega)
        (apply WO_as (hn := rfl); exact lk)
        refine WO_nil ?_; show WC E _ _ _; repeat first | refine WC_seq ?_ | refine WC_block ?_ | refine WC_region ?_
        (apply WO_bin (hn := rfl); exact lk; exact lk; exact bk; apply WO_mv (hn := rfl); exact lk)
        refine WO_nil ?_
        refine ⟨j - 1, by omega, _, _, i + 1, c.set i (((u + (4294967296 - w)) % 4294967296 + (4294967296 - bo)) % 4294967296), if u < w + bo then 1 else 0, rfl, gk, gk, gk, gk, gk, gk, by rw [PM.get_upd, if_pos rfl], by simpa using hc, hoc.set (Nat.mod_lt _ BB_pos), by omega, by omega, by split <;> omega, ?_⟩
        have := put_borrow (d := c) (a := A) (b := B) (i := i) (x := u) (c := bo) (by omega) hu hu2 hoB hbo hv
        rw [hW] at this
        exact this
      · intro hlt
        have hlt : i = A.length := by simp at hlt; omega
        subst hlt
        refine WC_exit ?_
        show WC E _ _ _; repeat first | refine WC_seq ?_ | refine WC_block ?_ | refine WC_region ?_
        (apply WO_mv (hn := rfl); exact lk)
        rw [nv_take_all (by omega), nv_take_all hlen, nv_take_all (Nat.le_refl _), hxA, hyB] at hv
        have hbo0 : bo = 0 := by
          have := nv_lt hoc
          rw [hc] at this
          rcases Nat.le_one_iff_eq_zero_or_eq_one.1 hbo with h | h
          · exact h
          · subst h; omega
        have hc2 : nv c = x - y := by subst hbo0; omega
        obtain ⟨r, hr1, hr2⟩ := nat_trim (a := c) (.inr ⟨none, rfl⟩) hoc (by omega)
        rw [hc2] at hr1
        obtain ⟨m', hm'⟩ := ev_msl (f := 176) rfl rfl rfl hb rfl hc.symm (hr2 _)
        apply WO_ca (hn := rfl) r m'
        · exact evs1 lk
        · exact hm'
        (apply WO_as (hn := rfl); exact lk; apply WO_as (hn := rfl); exact lk)
        refine WO_nil ?_
        show WC E _ _ _
        refine WC_ret (fin2 rfl ex_ret rfl gk gk ?_)
        exact ⟨_, m', reify_t2 hr1.flat rfl, ht hle r hr1⟩
  refine ⟨fun hle => ?_, fun hlt => ?_⟩
  · obtain ⟨v, ⟨r, rfl, h1⟩, h2⟩ := pre (fun v => ∃ r, v = .tup [r, .bool true] ∧ Lim (lm (x - y)) r) (fun h => by omega) (fun _ r hr => ⟨r, rfl, hr⟩)
    exact ⟨r, h1, h2⟩
  · obtain ⟨v, rfl, h2⟩ := pre (fun v => v = .tup [.nils, .bool false]) (fun _ => rfl) (fun h => by omega)
    exact h2
end Go.Ab.T
/- nat.left. -/
open Go Go.Ab
namespace Go.Ab.T
set_option maxRecDepth 10000
set_option maxHeartbeats 1000000
set_option linter.unusedSimpArgs false
attribute [local irreducible] Tr.get Tr.set

theorem nat_left {a : List Nat} {p : PV} {n k : Nat} (h : Lim a p) (ho : Ok a) (hk : k ≤ 31) (hn : a.length ≤ n) (hn2 : n < 900000) (hfit : nv a * 2 ^ k < BB ^ n) (m : PM) :
    ∃ q m', Ev E 284 [p, .int .u64 (k : Int), .int .i64 (n : Int)] m q m' ∧ ∃ c, q = .msl m.next 0 0 n 1 ∧ m'.get m.next = some (.cells (cu c) 0 false 68) ∧ m'.next = m.next + 1 ∧ (∀ b, b ≠ m.next → m'.get b = m.get b) ∧ c.length = n ∧ Ok c ∧ nv c = nv a * 2 ^ k := by
  refine Ev_rawE rfl rfl rfl (fn := Go.Proofs.Tryz.f284) rfl rfl rfl ?_
  show WC E _ ⟨((Tr.leaf.set 0 p).set 1 _).set 2 _, 45, _, _⟩ _
  have h31 := pow31 hk
  repeat first | refine WC_seq ?_ | refine WC_block ?_ | refine WC_region ?_
  (apply WO_as (hn := rfl); exact lk)
  refine WO_nil ?_; show WC E _ _ _; repeat first | refine WC_seq ?_ | refine WC_block ?_ | refine WC_region ?_
  (apply WO_mv (hn := rfl); exact lk)
  apply WO_mk (hn := rfl)
  exact lk
  exact lk
  · exact mk_msl ty34 (n := n) (by omega)
  (apply WO_as (hn := rfl); exact lk)
  refine WO_nil ?_; show WC E _ _ _; repeat first | refine WC_seq ?_ | refine WC_block ?_ | refine WC_region ?_
  (apply WO_mv (hn := rfl); exact lk; apply WO_b1 (hn := rfl) (hb := rfl); exact lk; exact nk; apply WO_mv (hn := rfl); exact lk)
  refine WO_nil ?_; show WC E _ _ _; repeat first | refine WC_seq ?_ | refine WC_block ?_ | refine WC_region ?_
  have low0 : ∀ y, (List.replicate n 0)[0]? = some y → y < 2 ^ k := by
    intro y hy
    rw [List.getElem?_replicate] at hy
    split at hy
    · cases hy; exact Nat.pow_pos (by decide)
    · cases hy
  have zero0 : ∀ t y, 0 < t → (List.replicate n 0)[t]? = some y → y = 0 := by
    intro t y _ hy
    rw [List.getElem?_replicate] at hy
    split at hy
    · cases hy; rfl
    · cases hy
  refine WC_loop (fun j s => ∃ (tm : Tr PV) (me : PM) (i : Nat) (c : List Nat), s = ⟨tm, 45, me, []⟩ ∧ tm.get 1 = some (.int .u64 (k : Int)) ∧ tm.get 2 = some (.int .i64 (n : Int)) ∧ tm.get 13 = some p ∧ tm.get 14 = some (.int .i64 (a.length : Int)) ∧ tm.get 15 = some (.int .i64 (i : Int)) ∧ tm.get 7 = some (.msl m.next 0 0 n 1) ∧
    me.get m.next = some (.cells (cu c) 0 false 68) ∧ me.next = m.next + 1 ∧ (∀ b, b ≠ m.next → me.get b = m.get b) ∧ c.length = n ∧ Ok c ∧ i ≤ a.length ∧ j = a.length - i ∧ nv c = nv (a.take i) * 2 ^ k ∧ (∀ y, c[i]? = some y → y < 2 ^ k) ∧ (∀ t y, i < t → c[t]? = some y → y = 0)) a.length
    ⟨_, _, 0, List.replicate n 0, rfl, gk, gk, gk, gk, gk, gk, by rw [PM.get_new]; exact if_pos rfl, rfl, fun b hb => by rw [PM.get_new]; exact if_neg (fun e => hb e.symm), by simp, .replicate, by omega, by omega, by simp [nv, nv_replicate], low0, zero0⟩ ?_
  rintro j s ⟨tm, me, i, c, rfl, h1, h2, h13, h14, h15, h7, hb, hnx, hoth, hc, hoc, hi, hj, hv, hlow, hzero⟩
  repeat first | refine WC_seq ?_ | refine WC_block ?_ | refine WC_region ?_
  (apply WO_bin (hn := rfl); exact lk; exact lk; exact bk)
  refine WO_nil ?_; show WC E _ _ _; repeat first | refine WC_seq ?_ | refine WC_block ?_ | refine WC_region ?_
  apply WC_cond; (focus (apply condOf_t; (focus (first | (apply evo_t; (repeat (first | exact get_hit | assumption | refine get_miss rfl ?_ | fail)); done) | (exact rfl) | fail))))
  · intro hlt
    have hlt : i < a.length := by simp at hlt; omega
    obtain ⟨x, hx⟩ : ∃ x, a[i]? = some x := ⟨_, List.getElem?_eq_getElem hlt⟩
    have hx2 : x < 4294967296 := ho.get hx
    obtain ⟨y, hy⟩ : ∃ y, c[i]? = some y := ⟨_, List.getElem?_eq_getElem (by omega)⟩
    have hy2 := hlow y hy
    have hxk : x * 2 ^ k < 18446744073709551616 := by
      have := Nat.mul_le_mul (show x ≤ 4294967295 by omega) h31
      omega
    have hmod : x * 2 ^ k % 18446744073709551616 = x * 2 ^ k := Nat.mod_eq_of_lt hxk
    have hlo : y + x * 2 ^ k % 4294967296 < 4294967296 := by
      have e := shl_lo (x := x) hk
      have e2 : x % 2 ^ (32 - k) < 2 ^ (32 - k) := Nat.mod_lt _ (Nat.pow_pos (by decide))
      have e3 : (x % 2 ^ (32 - k) + 1) * 2 ^ k ≤ 2 ^ (32 - k) * 2 ^ k := Nat.mul_le_mul_right _ e2
      rw [← Nat.pow_add, show 32 - k + k = 32 by omega, Nat.add_mul, Nat.one_mul] at e3
      omega
    refine WC_skip ?_
    show WC E _ _ _; repeat first | refine WC_seq ?_ | refine WC_block ?_ | refine WC_region ?_
    (apply WO_mv (hn := rfl); exact lk)
    apply WO_ia (hn := rfl)
    exact lk
    exact lk
    · exact ia_lim ty34 h hlt
    apply WO_ld (hn := rfl)
    exact lk
    · exact ld_lim ty68 hx
    (apply WO_as (hn := rfl); exact lk; apply WO_as (hn := rfl); exact lk)
    refine WO_nil ?_; show WC E _ _ _; repeat first | refine WC_seq ?_ | refine WC_block ?_ | refine WC_region ?_
    (apply WO_mv (hn := rfl); exact lk; apply WO_cv (hn := rfl); exact lk; exact rfl; exact rfl; exact ck; apply WO_mv (hn := rfl); exact lk)
    apply WO_bin (hn := rfl)
    exact lk
    exact lk
    · have e := b_shlU (K := E.ty 65) (cst := false) (a := x) (n := k) (by omega)
      rw [hmod] at e
      exact e
    (apply WO_as (hn := rfl); exact lk)
    refine WO_nil ?_; show WC E _ _ _; repeat first | refine WC_seq ?_ | refine WC_block ?_ | refine WC_region ?_
    (apply WO_mv (hn := rfl); exact lk; apply WO_mv (hn := rfl); exact lk)
    apply WO_ia (hn := rfl)
    exact lk
    exact lk
    · exact ia_msl ty34 (by omega)
    apply WO_ld (hn := rfl)
    exact lk
    · rw [Nat.zero_add]; exact ld_msl ty68 hb hy
    (apply WO_mv (hn := rfl); exact lk; apply WO_cv (hn := rfl); exact lk; exact rfl; exact rfl; exact ck)
    apply WO_bin (hn := rfl)
    exact lk
    exact lk
    · have e := b_or32 (K := E.ty 68) (cst := false) (a := y) (b := x * 2 ^ k % 4294967296) (hoc.get hy) (Nat.mod_lt _ (by decide))
      rw [or_lo hk hy2] at e
      exact e
    skip
    apply WO_ia (hn := rfl)
    exact lk
    exact lk
    · exact ia_msl ty34 (by omega)
    apply WO_st
    exact lk
    exact lk
    · rw [Nat.zero_add]; exact st_msl ty68 hb (by omega)
    refine WO_nil ?_; show WC E _ _ _; repeat first | refine WC_seq ?_ | refine WC_block ?_ | refine WC_region ?_
    (apply WO_mv (hn := rfl); exact lk; apply WO_bin (hn := rfl); exact lk; exact lk; exact bk; apply WO_mv (hn := rfl); exact lk; apply WO_bin (hn := rfl); exact lk; exact lk; exact bk)
    refine WO_nil ?_; show WC E _ _ _; repeat first | refine WC_seq ?_ | refine WC_block ?_ | refine WC_region ?_
    apply WC_cond; (focus (apply condOf_t; (focus (first | (apply evo_t; (repeat (first | exact get_hit | assumption | refine get_miss rfl ?_ | fail)); done) | (exact rfl) | fail))))
    · intro hlt2
      have hlt2 : i + 1 < n := by simp at hlt2; omega
      have hz : c[i + 1]? = some 0 := by
        have : ∃ z, c[i + 1]? = some z := ⟨_, List.getElem?_eq_getElem (by omega)⟩
        obtain ⟨z, hz⟩ := this
        rw [hz, hzero (i + 1) z (by omega) hz]
      have hhi := shl_hi (x := x) (k := k) hx2
      repeat first | refine WC_seq ?_ | refine WC_block ?_ | refine WC_region ?_
      (apply WO_mv (hn := rfl); exact lk; apply WO_mv (hn := rfl); exact lk; apply WO_bin (hn := rfl); exact lk; exact lk; exact bk; apply WO_mv (hn := rfl); exact lk; apply WO_bin (hn := rfl); exact lk; exact lk; exact bk; apply WO_cv (hn := rfl); exact lk; exact rfl; exact rfl; exact ck)
      apply WO_ia (hn := rfl)
      exact lk
      exact lk
      · rw [show (i : Int) + 1 = ((i + 1 : Nat) : Int) from rfl]
        exact ia_msl ty34 (by omega)
      apply WO_st
      exact lk
      exact lk
      · rw [Nat.zero_add]; exact st_msl (a := c.set i (y + x * 2 ^ k % 4294967296)) (et := 68) ty68 (by rw [PM.get_upd, if_pos rfl]) (by simp; omega)
      refine WO_nil ?_; show WC E _ _ _; repeat first | refine WC_seq ?_ | refine WC_block ?_ | refine WC_region ?_
      (apply WO_bin (hn := rfl); exact lk; exact lk; exact bk; apply WO_mv (hn := rfl); exact lk)
      refine WO_nil ?_
      have hmm : x * 2 ^ k / 2 ^ 32 % 4294967296 = x * 2 ^ k / 4294967296 := by omega
      refine ⟨j - 1, by omega, _, _, i + 1, (c.set i (y + x * 2 ^ k % 4294967296)).set (i + 1) (x * 2 ^ k / 4294967296), rfl, gk, gk, gk, gk, gk, gk, by rw [PM.get_upd, if_pos rfl, hmm], hnx, fun b hb => by rw [PM.get_upd, if_neg (fun e => hb e.symm), PM.get_upd, if_neg (fun e => hb e.symm)]; exact hoth b hb, by simpa using hc, (hoc.set hlo).set (show _ < BB by rw [BB_eq]; omega), by omega, by omega, left_step hk hx hx2 hy hc hlt2 hz hv, ?_, ?_⟩
      · intro z hz2
        rw [List.getElem?_set_self (by simp; omega)] at hz2
        cases hz2; exact hhi
      · intro t z ht hz2
        rw [List.getElem?_set_ne (by omega), List.getElem?_set_ne (by omega)] at hz2
        exact hzero t z (by omega) hz2
    · intro hlt2
      have hlt2 : i + 1 = n := by simp at hlt2; omega
      refine WC_skip ?_
      show WC E _ _ _; repeat first | refine WC_seq ?_ | refine WC_block ?_ | refine WC_region ?_
      (apply WO_bin (hn := rfl); exact lk; exact lk; exact bk; apply WO_mv (hn := rfl); exact lk)
      refine WO_nil ?_
      refine ⟨j - 1, by omega, _, _, i + 1, c.set i (y + x * 2 ^ k % 4294967296), rfl, gk, gk, gk, gk, gk, gk, by rw [PM.get_upd, if_pos rfl], hnx, fun b hb => by rw [PM.get_upd, if_neg (fun e => hb e.symm)]; exact hoth b hb, by simpa using hc, hoc.set hlo, by omega, by omega, left_last hx hy hlt2 hv hfit hlt, ?_, ?_⟩
      · intro z hz2
        have := (List.getElem?_eq_some_iff.1 hz2).1
        simp at this; omega
      · intro t z ht hz2
        have := (List.getElem?_eq_some_iff.1 hz2).1
        simp at this; omega
  · intro hlt
    have hlt : i = a.length := by simp at hlt; omega
    subst hlt
    refine WC_exit ?_
    show WC E _ _ _; repeat first | refine WC_seq ?_ | refine WC_block ?_ | refine WC_region ?_
    (apply WO_mv (hn := rfl); exact lk; apply WO_as (hn := rfl); exact lk)
    refine WO_nil ?_
    show WC E _ _ _
    refine WC_ret ?_
    show BodyQ _ _ _ _ _
    refine fin1 rfl ex_ret rfl gk ?_
    exact ⟨c, rfl, hb, hnx, hoth, hc, hoc, by rw [hv, nv_take_all (Nat.le_refl _)]⟩
end Go.Ab.T
