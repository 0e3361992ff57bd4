/- The plain law of the sums. -/
import Derived.Test.YtkidolggnmomcaaGreatDoorCd
set_option linter.unusedVariables false
set_option linter.unusedSimpArgs false
/- The plain law: the numbers of a document whose first or second field is told. -/
open Go Go.Ab
namespace Go.Ab.T
set_option maxRecDepth 10000
set_option linter.unusedSimpArgs false

def sumTo (f : Nat → Rat) : Nat → Rat
  | 0 => 0
  | n + 1 => sumTo f n + f n
theorem sumTo_congr {f g : Nat → Rat} : ∀ {n : Nat}, (∀ i, i < n → f i = g i) → sumTo f n = sumTo g n
  | 0, _ => rfl
  | n + 1, h => by
    simp only [sumTo]
    rw [sumTo_congr fun i hi => h i (by omega), h n (by omega)]
theorem sumTo_upd {f : Nat → Rat} {k : Nat} : ∀ {n : Nat}, k < n → sumTo f n = sumTo (fun i => if i = k then 0 else f i) n + f k
  | 0, h => absurd h (Nat.not_lt_zero _)
  | n + 1, h => by
    simp only [sumTo]
    by_cases hk : k = n
    · subst hk
      rw [if_pos rfl, sumTo_congr (g := fun i => if i = k then 0 else f i) fun i hi => by rw [if_neg (by omega)]]
      grind
    · rw [sumTo_upd (k := k) (n := n) (by omega), if_neg (fun e => hk e.symm)]
      grind
/-- the same, from the front -/
def front (f : Nat → Rat) : Nat → Nat → Rat
  | 0, _ => 0
  | j + 1, i => f i + front f j (i + 1)
theorem front_eq {f : Nat → Rat} : ∀ {j i : Nat}, front f j i = sumTo f (i + j) - sumTo f i
  | 0, i => by
    simp only [front, Nat.add_zero]
    grind
  | j + 1, i => by
    simp only [front]
    rw [front_eq, show i + (j + 1) = i + 1 + j from by omega]
    simp only [sumTo]
    grind
def lst (y : Nat → Rat) : Nat → Nat → List Rat
  | 0, _ => []
  | j + 1, i => y i :: lst y j (i + 1)
theorem lst_length {y : Nat → Rat} : ∀ {j i : Nat}, (lst y j i).length = j
  | 0, _ => rfl
  | j + 1, i => by simp only [lst, List.length_cons, lst_length]
theorem lst_mem {y : Nat → Rat} : ∀ {j i : Nat} {x : Rat}, x ∈ lst y j i → ∃ l, i ≤ l ∧ l < i + j ∧ x = y l
  | 0, _, _, h => by cases h
  | j + 1, i, x, h => by
    rcases List.mem_cons.1 h with rfl | h
    · exact ⟨i, by omega, by omega, rfl⟩
    · obtain ⟨l, h1, h2, h3⟩ := lst_mem h
      exact ⟨l, by omega, by omega, h3⟩
theorem evs_unit : ∀ {i : Nat} {xs : List Rat}, evs (unitE.go i) xs = xs.getD i 0
  | 0, [] => rfl
  | 0, x :: xs => by simp [unitE.go, evs, Rat.add_zero, Rat.one_mul]
  | i + 1, [] => rfl
  | i + 1, x :: xs => by
    simp only [unitE.go, evs, evs_unit, List.getD_cons_succ]
    simp [Rat.zero_mul, Rat.zero_add]
theorem lst_get {y : Nat → Rat} {v : Rat} : ∀ {j i l : Nat}, l < j → (lst y j i ++ [v]).getD l 0 = y (i + l)
  | 0, _, _, h => absurd h (Nat.not_lt_zero _)
  | j + 1, i, 0, _ => rfl
  | j + 1, i, l + 1, h => by
    simp only [lst, List.cons_append, List.getD_cons_succ]
    rw [lst_get (by omega), show i + 1 + l = i + (l + 1) from by omega]
theorem lst_last {y : Nat → Rat} {v : Rat} : ∀ {j i : Nat}, (lst y j i ++ [v]).getD j 0 = v
  | 0, _ => rfl
  | j + 1, i => by
    simp only [lst, List.cons_append, List.getD_cons_succ]
    exact lst_last
theorem evr_unit {n i : Nat} {y : Nat → Rat} {v : Rat} (h : i < n) : evr (lst y n 0 ++ [v]) (unitE i) = y i := by
  simp only [unitE, evr, evs_unit, lst_get h, Nat.zero_add]
  simp [Rat.zero_add]
theorem evr_last {n : Nat} {y : Nat → Rat} {v : Rat} : evr (lst y n 0 ++ [v]) (unitE n) = v := by
  simp only [unitE, evr, evs_unit, lst_last]
  simp [Rat.zero_add]
theorem evs_told {t k : Nat} {vf : Bool} {y : Nat → Rat} {v : Rat} : ∀ {j i : Nat}, evs (toldE.go t k vf j i) (lst y j i ++ [v]) = -(front (fun i => if i = t ∨ i = k then 0 else y i) j i) - (if vf then v else 0)
  | 0, i => by
    cases vf
    · simp only [toldE.go, cond_false, lst, List.nil_append, evs, front]
      simp
      grind
    · simp only [toldE.go, cond_true, lst, List.nil_append, evs, front]
      simp
      grind
  | j + 1, i => by
    simp only [toldE.go, lst, List.cons_append, evs, front, Nat.succ_eq_add_one]
    rw [evs_told]
    have e : (Nat.beq i t || Nat.beq i k) = decide (i = t ∨ i = k) := by
      rw [Bool.eq_iff_iff, Bool.or_eq_true, decide_eq_true_iff]
      simp [Nat.beq_eq]
    rw [e]
    by_cases h : i = t ∨ i = k
    · rw [decide_eq_true h, if_pos h]
      simp
      grind
    · rw [decide_eq_false h, if_neg h]
      simp
      grind
/-- the sum of all fields but two -/
def rest (y : Nat → Rat) (n t k : Nat) : Rat := sumTo (fun i => if i = t ∨ i = k then 0 else y i) n
theorem evr_told {n t k : Nat} {vf : Bool} {y : Nat → Rat} {v : Rat} : evr (lst y n 0 ++ [v]) (toldE n t k vf) = 100 - rest y n t k - (if vf then v else 0) := by
  simp only [toldE, evr, evs_told, front_eq, Nat.zero_add, rest, sumTo]
  simp
  grind
/-- the value of a field, the t-th one being told -/
def nm (n t : Nat) (y : Nat → Rat) (i : Nat) : Rat := if i = t then 100 - rest y n t t else y i
theorem nm_sum {n t : Nat} {y : Nat → Rat} (h : t < n) : sumTo (nm n t y) n = 100 := by
  rw [sumTo_upd h]
  have e : sumTo (fun i => if i = t then 0 else nm n t y i) n = rest y n t t := by
    unfold rest
    refine sumTo_congr fun i _ => ?_
    by_cases hi : i = t
    · simp [hi]
    · simp [hi, nm]
  rw [e]
  simp only [nm, if_true]
  grind
def upd (y : Nat → Rat) (k : Nat) (v : Rat) (i : Nat) : Rat := if i = k then v else y i
theorem rest_upd {n t k : Nat} {y : Nat → Rat} {v : Rat} (hk : k < n) (hne : k ≠ t) : rest (upd y k v) n t t = rest y n t k + v := by
  unfold rest
  rw [sumTo_upd hk]
  congr 1
  · refine sumTo_congr fun i _ => ?_
    by_cases h1 : i = k
    · simp [h1]
    · by_cases h2 : i = t
      · simp [h2]
      · simp [h1, h2, upd]
  · simp [hne, upd]
theorem toldBy_ne (t k : Nat) : k ≠ toldBy t k := by
  unfold toldBy
  cases h : Nat.beq t k with
  | true =>
    cases beq_t h
    cases h0 : Nat.beq t 0 with
    | true => cases beq_t h0; decide
    | false =>
      simp only [cond_true, cond_false]
      rintro rfl
      cases h0
  | false =>
    simp only [cond_false]
    rintro rfl
    rw [Nat.beq_refl] at h
    cases h
theorem toldBy_lt {t k : Nat} (h : t < 2) : toldBy t k < 2 := by
  unfold toldBy
  cases Nat.beq t k <;> cases Nat.beq t 0 <;> simp only [cond_true, cond_false] <;> omega
end Go.Ab.T
/- What the names stand for, and the documents with the names put in. -/
open Go Go.Ab
namespace Go.Ab.T
set_option maxRecDepth 10000
set_option linter.unusedSimpArgs false

def canC (r : Rat) : List PV := [.bool (decide (r.num < 0)), limR r.num.natAbs, limR r.den]
/-- the names: numbers by base numbers xs; one of them, eV, as it was handed in; what was filled in; how many documents are ahead -/
def rhoOf (xs : List Rat) (eV : List Int) (s : Bool) (pa pb : PV) (fil : Nat → Bool) (len : Nat) (c : Nat) (e : List Int) : PV := match c with
  | 0 => .bool (decide ((evr xs e).num < 0))
  | 1 => limR (evr xs e).num.natAbs
  | 2 => limR (evr xs e).den
  | 3 => if e = eV then .bool s else .bool (decide ((evr xs e).num < 0))
  | 4 => if e = eV then pa else limR (evr xs e).num.natAbs
  | 5 => if e = eV then pb else limR (evr xs e).den
  | 6 => .bool (match e with
    | [.ofNat i] => fil i
    | _ => false)
  | 8 => if e = [0] then pastR len else pastR (len + 1)
  | _ => .bool false
/-- a plain value that may stand for a name -/
def PlainV (p : PV) : Prop := nosym p = true ∧ stiff p = true ∧ ((∃ b, p = .bool b) ∨ p = .nils ∨ ∃ l n cp, p = .vsl l n cp)
theorem plain_bool (b : Bool) : PlainV (.bool b) := ⟨rfl, rfl, .inl ⟨b, rfl⟩⟩
theorem plain_lim {a : List Nat} {p : PV} (h : Lim a p) : PlainV p := by
  rcases h with ⟨_, rfl⟩ | ⟨cp, rfl⟩
  · exact ⟨rfl, rfl, .inr (.inl rfl)⟩
  · refine ⟨?_, ?_, .inr (.inr ⟨_, _, _, rfl⟩)⟩
    · show nosyms (cu a) = true
      induction a with
      | nil => rfl
      | cons x a ih => exact ih
    · show stiffs (cu a) = true
      induction a with
      | nil => rfl
      | cons x a ih => exact ih
theorem plain_past : ∀ n : Nat, PlainV (pastR n)
  | 0 => ⟨rfl, rfl, .inr (.inl rfl)⟩
  | n + 1 => by
    refine ⟨?_, ?_, .inr (.inr ⟨_, _, _, rfl⟩)⟩
    · show nosyms (repA (n + 1)) = true
      induction n with
      | zero => rfl
      | succ n ih => exact ih
    · show stiffs (repA (n + 1)) = true
      induction n with
      | zero => rfl
      | succ n ih => exact ih
/-- what is known of the names -/
structure KP (ρ : Nat → List Int → PV) : Prop where
  k : K1 ρ
  past : ∃ len, len ≤ 12 ∧ ρ 8 [0] = pastR len ∧ ρ 8 [1] = pastR (len + 1)
theorem rho_ok {xs : List Rat} {eV : List Int} {s : Bool} {pa pb : PV} {fil : Nat → Bool} {len : Nat} (hx : ∀ x ∈ xs, Bd 2 x) (hv : RatC (evr xs eV) (.agg [.bool s, pa, pb])) (hl : len ≤ 12) : KP (rhoOf xs eV s pa pb fil len) := by
  have hl1 : ∃ a, Lim a pa := by
    obtain ⟨pn, pd, e, h1, h2⟩ := hv
    cases e
    exact ⟨_, h1⟩
  have hl2 : ∃ a, Lim a pb := by
    obtain ⟨pn, pd, e, h1, h2⟩ := hv
    cases e
    exact ⟨_, h2⟩
  obtain ⟨a1, hl1⟩ := hl1
  obtain ⟨a2, hl2⟩ := hl2
  refine ⟨⟨xs, hx, fun e => rfl, fun e => rfl, fun e => rfl, fun e => ?_, fun e => ⟨_, rfl⟩, fun k e => ?_⟩, len, hl, (if_pos rfl : (if ([0] : List Int) = [0] then pastR len else pastR (len + 1)) = _), (if_neg (by decide) : (if ([1] : List Int) = [0] then pastR len else pastR (len + 1)) = _)⟩
  · show RatC (evr xs e) (.agg [if e = eV then .bool s else .bool (decide ((evr xs e).num < 0)), if e = eV then pa else limR (evr xs e).num.natAbs, if e = eV then pb else limR (evr xs e).den])
    by_cases h : e = eV
    · subst h
      rw [if_pos rfl, if_pos rfl, if_pos rfl]
      exact hv
    · rw [if_neg h, if_neg h, if_neg h]
      exact (canR_p _).c
  · show PlainV _
    unfold rhoOf
    split
    · exact plain_bool _
    · exact plain_lim (limR_lim _)
    · exact plain_lim (limR_lim _)
    · split <;> exact plain_bool _
    · split
      · exact plain_lim hl1
      · exact plain_lim (limR_lim _)
    · split
      · exact plain_lim hl2
      · exact plain_lim (limR_lim _)
    · exact plain_bool _
    · split <;> exact plain_past _
    · exact plain_bool _

theorem ress_app (ρ : Nat → List Int → PV) : ∀ (a b : List PV), ress ρ (a ++ b) = ress ρ a ++ ress ρ b
  | [], b => rfl
  | x :: a, b => by simp only [List.cons_append, ress, ress_app ρ a b]
theorem ress_row {ρ : Nat → List Int → PV} {f g : Nat → List PV} : ∀ {j i : Nat}, (∀ l, i ≤ l → l < i + j → ress ρ (f l) = g l) → ress ρ (rowR f j i) = rowR g j i
  | 0, _, _ => rfl
  | j + 1, i, h => by
    simp only [rowR, ress_app]
    rw [h i (by omega) (by omega), ress_row fun l h1 h2 => h l (by have := h1; omega) (by have := h2; omega)]
/-- a document of numbers -/
def docL (n t : Nat) (y : Nat → Rat) (fil : Nat → Bool) : List PV := docCs (rowR (fun i => canC (nm n t y i)) n 0) t (rowR (fun i => [.bool (fil i)]) n 0) n
theorem ress_sym {xs : List Rat} {eV : List Int} {s : Bool} {pa pb : PV} {fil : Nat → Bool} {len : Nat} {e : List Int} : ress (rhoOf xs eV s pa pb fil len) (symC e) = canC (evr xs e) := rfl
theorem ress_pins {ρ : Nat → List Int → PV} {n : Nat} : ress ρ (rowR (fun _ => pinR) n 0) = rowR (fun _ => pinR) n 0 := ress_row fun _ _ _ => rfl
theorem res_docs {ρ : Nat → List Int → PV} {vals vals' fil fil' : List PV} {t n : Nat} (h1 : ress ρ vals = vals') (h2 : ress ρ fil = fil') : ress ρ (docCs vals t fil n) = docCs vals' t fil' n := by
  subst h1 h2
  simp only [docCs, ress, res, ress_pins]
section
variable {n t k len : Nat} {y : Nat → Rat} {v : Rat} {s : Bool} {pa pb : PV} {fil : Nat → Bool}
/-- the names ahead of an edit -/
def rhoE (n : Nat) (y : Nat → Rat) (v : Rat) (s : Bool) (pa pb : PV) (fil : Nat → Bool) (len : Nat) : Nat → List Int → PV := rhoOf (lst y n 0 ++ [v]) (unitE n) s pa pb fil len
theorem res_in : ress (rhoE n y v s pa pb fil len) (docIn n t) = docL n t y fil := by
  refine res_docs ?_ ?_
  · refine ress_row fun i _ hi => ?_
    rw [rhoE, ress_sym]
    congr 1
    by_cases h : i = t
    · subst h
      rw [Nat.beq_refl]
      simp only [cond_true, evr_told, nm, if_true]
      simp
      grind
    · have hb : Nat.beq i t = false := by
        cases hb : Nat.beq i t with
        | false => rfl
        | true => exact absurd (beq_t hb) h
      rw [hb]
      simp only [cond_false, nm, if_neg h]
      exact evr_unit (by omega)
  · exact ress_row fun i _ _ => rfl
theorem res_out (hk : k < n) : ress (rhoE n y v s pa pb fil len) (docOut n t k) = docL n (toldBy t k) (upd y k v) (fun i => if i = k then true else fil i) := by
  have hne := toldBy_ne t k
  generalize hT : toldBy t k = T at hne
  unfold docOut
  rw [hT]
  refine res_docs ?_ ?_
  · unfold valsR2
    rw [hT]
    refine ress_row fun i _ hi => ?_
    rw [rhoE, ress_sym]
    congr 1
    by_cases h : i = k
    · subst h
      rw [Nat.beq_refl]
      simp only [cond_true, evr_last, nm, if_neg hne, upd, if_true]
    · have hb : Nat.beq i k = false := by
        cases hb : Nat.beq i k with
        | false => rfl
        | true => exact absurd (beq_t hb) h
      rw [hb]
      simp only [cond_false]
      by_cases h2 : i = T
      · subst h2
        rw [Nat.beq_refl]
        simp only [cond_true, evr_told, nm, if_true, rest_upd hk hne]
        grind
      · have hb2 : Nat.beq i T = false := by
          cases hb : Nat.beq i T with
          | false => rfl
          | true => exact absurd (beq_t hb) h2
        rw [hb2]
        simp only [cond_false, nm, if_neg h2, upd, if_neg h]
        exact evr_unit (by omega)
  · refine ress_row fun i _ _ => ?_
    by_cases h : i = k
    · subst h
      rw [Nat.beq_refl]
      simp [ress, res]
    · have hb : Nat.beq i k = false := by
        cases hb : Nat.beq i k with
        | false => rfl
        | true => exact absurd (beq_t hb) h
      rw [hb]
      simp [ress, res, h]
      rfl
end
end Go.Ab.T
