/- Affine terms over base numbers, and the numbers that they stand for. -/
import Derived.Test.YtkidolggnmomcaaGreatDoorBc
import Derived.Test.YtkidolggnmomcaaGreatDoorAe
set_option linter.unusedVariables false
set_option linter.unusedSimpArgs false
/- Numbers known by a name: what they are, and the contracts of the program's functions on them. -/
open Go Go.Ab
namespace Go.Ab.T
set_option maxRecDepth 10000
set_option linter.unusedSimpArgs false

def evs : List Int → List Rat → Rat
  | [], _ => 0
  | _ :: _, [] => 0
  | f :: r, x :: xs => (f : Rat) * x + evs r xs
/-- what an affine term is at base numbers -/
def evr (xs : List Rat) : List Int → Rat
  | [] => 0
  | c :: r => (c : Rat) + evs r xs
/-- a row of limbs in its plain form -/
def limR (n : Nat) : PV := match lm n with
  | [] => .nils
  | x :: r => .vsl (cu (x :: r)) (x :: r).length none
/-- a number in its plain form -/
def canR (r : Rat) : PV := .agg [.bool (decide (r.num < 0)), limR r.num.natAbs, limR r.den]
theorem limR_lim (n : Nat) : Lim (lm n) (limR n) := by
  unfold limR Lim
  cases h : lm n with
  | nil => exact .inl ⟨rfl, rfl⟩
  | cons x r => exact .inr ⟨none, rfl⟩
theorem canR_p (r : Rat) : RatP r (canR r) := ⟨_, _, rfl, limR_lim _, fun h => by subst h; unfold limR; rw [show (0 : Rat).num.natAbs = 0 from rfl, lm_zero], limR_lim _⟩

/-- what names must stand for -/
structure NumK (ρ : Nat → List Int → PV) (xs : List Rat) : Prop where
  bd : ∀ x ∈ xs, Bd 2 x
  s : ∀ e, ρ 0 e = .bool (decide ((evr xs e).num < 0))
  n : ∀ e, ρ 1 e = limR (evr xs e).num.natAbs
  d : ∀ e, ρ 2 e = limR (evr xs e).den
  raw : ∀ e, RatC (evr xs e) (.agg [ρ 3 e, ρ 4 e, ρ 5 e])
  b : ∀ e, ∃ x, ρ 6 e = .bool x
  pl : PlainR ρ
def K1 (ρ : Nat → List Int → PV) : Prop := ∃ xs, NumK ρ xs

section
variable {xs : List Rat} {ρ : Nat → List Int → PV}
theorem evs_add : ∀ (a b : List Int) (xs : List Rat), evs (addE a b) xs = evs a xs + evs b xs
  | [], b, xs => by cases b <;> simp [addE, evs, Rat.zero_add]
  | x :: a, [], xs => by simp [addE, evs, Rat.add_zero]
  | x :: a, y :: b, [] => by simp [addE, evs, Rat.add_zero]
  | x :: a, y :: b, z :: xs => by
    simp only [addE, evs, evs_add a b xs, Rat.intCast_add]
    grind
theorem evr_add (a b : List Int) : evr xs (addE a b) = evr xs a + evr xs b := by
  cases a with
  | nil => cases b <;> simp [addE, evr, Rat.zero_add]
  | cons x a => cases b with
    | nil => simp [addE, evr, Rat.add_zero]
    | cons y b =>
      simp only [addE, evr, evs_add, Rat.intCast_add]
      grind
theorem evs_scale (c : Int) : ∀ (a : List Int) (xs : List Rat), evs (scaleE c a) xs = (c : Rat) * evs a xs
  | [], xs => by simp [scaleE, evs]
  | x :: a, [] => by simp [scaleE, evs]
  | x :: a, z :: xs => by
    simp only [scaleE, evs, evs_scale c a xs, Rat.intCast_mul]
    grind
theorem evr_scale (c : Int) (a : List Int) : evr xs (scaleE c a) = (c : Rat) * evr xs a := by
  cases a with
  | nil => simp [scaleE, evr]
  | cons x a =>
    simp only [scaleE, evr, evs_scale, Rat.intCast_mul]
    grind
theorem isZ_eq {c : Int} (h : isZ c = true) : c = 0 := by
  unfold isZ at h
  split at h
  · rfl
  · cases h
theorem isZ_ne {c : Int} (h : isZ c = false) : c ≠ 0 := by
  rintro rfl
  cases h
theorem evs_allZ : ∀ (a : List Int) (xs : List Rat), allZ a = true → evs a xs = 0
  | [], xs, _ => by simp [evs]
  | x :: a, [], _ => by simp [evs]
  | x :: a, z :: xs, h => by
    obtain ⟨h1, h2⟩ := and_tt h
    simp only [evs, isZ_eq h1, evs_allZ a xs h2]
    simp [Rat.add_zero]
theorem evr_one (c : Int) : evr xs [c] = (c : Rat) := by simp [evr, evs, Rat.add_zero]
theorem evr_allZ {c : Int} {r : List Int} (h : allZ r = true) : evr xs (c :: r) = (c : Rat) := by simp [evr, evs_allZ r xs h, Rat.add_zero]

/-! ### sizes -/
/-- a numerator of at most A, a denominator of at most B -/
def Sz (r : Rat) (A B : Nat) : Prop := r.num.natAbs ≤ A ∧ r.den ≤ B
def W : Nat := BB ^ 2
theorem W_pos : 0 < W := by decide
theorem mk_le (n : Int) {d : Nat} (hd : d ≠ 0) : Sz (mkRat n d) n.natAbs d := by
  constructor
  · rw [Rat.num_mkRat, if_neg hd]
    have hd' : ((d.gcd n.natAbs : Nat) : Int) ∣ n := Int.ofNat_dvd_left.2 (Nat.gcd_dvd_right _ _)
    rw [Int.natAbs_ediv_of_dvd hd']
    exact Nat.div_le_self _ _
  · rw [Rat.den_mkRat, if_neg hd]
    exact Nat.div_le_self _ _
theorem Sz.mono {r : Rat} {A B A' B' : Nat} (h : Sz r A B) (h1 : A ≤ A') (h2 : B ≤ B') : Sz r A' B' := ⟨Nat.le_trans h.1 h1, Nat.le_trans h.2 h2⟩
theorem Sz.add {r t : Rat} {A B C D : Nat} (h : Sz r A B) (h' : Sz t C D) : Sz (r + t) (A * D + C * B) (B * D) := by
  rw [Rat.add_def']
  refine (mk_le _ (Nat.mul_ne_zero r.den_nz t.den_nz)).mono ?_ (Nat.mul_le_mul h.2 h'.2)
  refine Nat.le_trans (Int.natAbs_add_le _ _) ?_
  rw [Int.natAbs_mul, Int.natAbs_mul, Int.natAbs_natCast, Int.natAbs_natCast]
  exact Nat.add_le_add (Nat.mul_le_mul h.1 h'.2) (Nat.mul_le_mul h'.1 h.2)
theorem Sz.mul {r t : Rat} {A B C D : Nat} (h : Sz r A B) (h' : Sz t C D) : Sz (r * t) (A * C) (B * D) := by
  rw [Rat.mul_def']
  refine (mk_le _ (Nat.mul_ne_zero r.den_nz t.den_nz)).mono ?_ (Nat.mul_le_mul h.2 h'.2)
  rw [Int.natAbs_mul]
  exact Nat.mul_le_mul h.1 h'.1
theorem Sz.int (c : Int) : Sz (c : Rat) c.natAbs 1 := ⟨by simp, by simp⟩
theorem Sz.bd {r : Rat} (h : Bd 2 r) : Sz r W W := ⟨Nat.le_of_lt (lm_length.1 h.1), Nat.le_of_lt (lm_length.1 h.2)⟩
theorem Sz.to {r : Rat} {A B L : Nat} (h : Sz r A B) (h1 : A < BB ^ L) (h2 : B < BB ^ L) : Bd L r := ⟨lm_length.2 (Nat.lt_of_le_of_lt h.1 h1), lm_length.2 (Nat.lt_of_le_of_lt h.2 h2)⟩
theorem small_le {c : Int} (h : smallI c = true) : c.natAbs ≤ 1001 := by
  unfold smallI at h
  split at h
  · exact Nat.le_succ_of_le (Nat.le_of_ble_eq_true h)
  · have := Nat.le_of_ble_eq_true h
    show _ + 1 ≤ 1001
    omega
theorem evs_sz : ∀ (e : List Int) (k : Nat) (xs : List Rat), (∀ x ∈ xs, Bd 2 x) → modE e k = true → Sz (evs e xs) (1001 * k * W ^ k) (W ^ k)
  | [], k, xs, _, _ => by
    have := Nat.pow_pos (n := k) W_pos
    exact ⟨by simp [evs], by simp [evs]; omega⟩
  | _ :: _, 0, _, _, h => by cases h
  | f :: r, k + 1, [], _, _ => by
    have := Nat.pow_pos (n := k + 1) W_pos
    exact ⟨by simp [evs], by simp [evs]; omega⟩
  | f :: r, k + 1, x :: xs, hx, h => by
    obtain ⟨h1, h2⟩ := and_tt h
    have ih := evs_sz r k xs (fun y hy => hx y (by simp [hy])) h2
    have h3 := ((Sz.int f).mul (Sz.bd (hx x (by simp)))).add ih
    simp only [evs]
    have h4 := small_le h1
    refine h3.mono ?_ ?_
    · rw [Nat.pow_succ]
      have e1 : f.natAbs * W * W ^ k ≤ 1001 * W * W ^ k := Nat.mul_le_mul_right _ (Nat.mul_le_mul_right _ h4)
      have e2 : 1001 * (k + 1) * (W ^ k * W) = 1001 * W * W ^ k + 1001 * k * W ^ k * W := by
        rw [Nat.mul_add, Nat.add_mul, Nat.mul_one, Nat.add_comm]
        congr 1
        · rw [Nat.mul_assoc, Nat.mul_comm W]
        · rw [Nat.mul_assoc (1001 * k)]
      have e3 : (1 * W : Nat) = W := Nat.one_mul _
      rw [e2, e3]
      omega
    · rw [Nat.pow_succ, Nat.one_mul, Nat.mul_comm]
      exact Nat.le_refl _
theorem evr_bd (hx : ∀ x ∈ xs, Bd 2 x) {e : List Int} (h : modE e 12 = true) : Bd 30 (evr xs e) := by
  cases e with
  | nil => exact (Sz.int 0).to (L := 30) (by decide) (by decide)
  | cons c r =>
    obtain ⟨h1, h2⟩ := and_tt h
    have h3 := (Sz.int c).add (evs_sz r 11 xs hx h2)
    refine (h3.mono (A' := 1001 * W ^ 11 + 1001 * 11 * W ^ 11) (B' := W ^ 11) ?_ ?_).to (by decide) (by decide)
    · rw [Nat.mul_one]
      exact Nat.add_le_add_right (Nat.mul_le_mul_right _ (small_le h1)) _
    · rw [Nat.one_mul]; exact Nat.le_refl _
theorem evs_few : ∀ (e : List Int) (k : Nat) (xs : List Rat), (∀ x ∈ xs, Bd 2 x) → fewE e k = true → Sz (evs e xs) (k * W ^ k) (W ^ k) := by
  have step : ∀ (f : Int) (r : List Int) (k : Nat) (x : Rat) (xs : List Rat), f.natAbs = 1 → Bd 2 x → Sz (evs r xs) (k * W ^ k) (W ^ k) → Sz (evs (f :: r) (x :: xs)) ((k + 1) * W ^ (k + 1)) (W ^ (k + 1)) := by
    intro f r k x xs hf hx ih
    have h3 := ((Sz.int f).mul (Sz.bd hx)).add ih
    simp only [evs]
    refine h3.mono ?_ ?_
    · rw [Nat.pow_succ, hf, Nat.one_mul, Nat.add_mul, Nat.one_mul, Nat.mul_comm W, Nat.mul_assoc]
      omega
    · rw [Nat.pow_succ, Nat.one_mul, Nat.mul_comm]
      exact Nat.le_refl _
  intro e
  induction e with
  | nil =>
    intro k xs _ _
    have := Nat.pow_pos (n := k) W_pos
    exact ⟨by simp [evs], by simp [evs]; omega⟩
  | cons f r ih =>
    intro k xs hx h
    cases xs with
    | nil =>
      have := Nat.pow_pos (n := k) W_pos
      exact ⟨by simp [evs], by simp [evs]; omega⟩
    | cons x xs =>
      unfold fewE at h
      split at h
      · rename_i e1; cases e1
      · rename_i e1
        cases e1
        have := ih _ xs (fun y hy => hx y (by simp [hy])) h
        simp only [evs]
        rw [show ((Int.ofNat 0 : Int) : Rat) = 0 from rfl, Rat.zero_mul, Rat.zero_add]
        exact this
      · rename_i e1
        cases e1
        exact step _ _ _ _ _ rfl (hx x (by simp)) (ih _ xs (fun y hy => hx y (by simp [hy])) h)
      · rename_i e1
        cases e1
        exact step _ _ _ _ _ rfl (hx x (by simp)) (ih _ xs (fun y hy => hx y (by simp [hy])) h)
      · cases h
theorem few_bd (hx : ∀ x ∈ xs, Bd 2 x) {e : List Int} (h : fewN e = true) : Bd 15 (evr xs e) := by
  unfold fewN at h
  split at h
  · exact (Sz.int 0).to (by decide) (by decide)
  · rename_i c r
    obtain ⟨h1, h2⟩ := and_tt h
    have h3 := (Sz.int c).add (evs_few r 7 xs hx h2)
    refine (h3.mono (A' := 1001 * W ^ 7 + 7 * W ^ 7) (B' := W ^ 7) ?_ ?_).to (by decide) (by decide)
    · rw [Nat.mul_one]
      exact Nat.add_le_add_right (Nat.mul_le_mul_right _ (small_le h1)) _
    · rw [Nat.one_mul]; exact Nat.le_refl _
end
end Go.Ab.T
/- The contracts of the program's functions on numbers that are known by a name. -/
open Go Go.Ab
namespace Go.Ab.T
set_option maxRecDepth 10000
set_option linter.unusedSimpArgs false
section
variable {xs : List Rat} {ρ : Nat → List Int → PV}

theorem lm_small {n : Nat} (h0 : n ≠ 0) (h : n < BB) : lm n = [n] := by
  rw [lm_pos h0, Nat.mod_eq_of_lt h, Nat.div_eq_of_lt h, lm_zero]
theorem natC_sound {x : PV} {n : Nat} (h : natC x = some n) : x = .int .u32 (n : Int) ∧ n ≠ 0 ∧ n ≤ 1001 := by
  cases x with
  | int k i =>
    cases k <;> simp only [natC] at h <;> try (cases h; done)
    cases i with
    | ofNat m =>
      simp only at h
      obtain ⟨h1, h2⟩ := bif_some h
      cases h2
      obtain ⟨h3, h4⟩ := and_tt h1
      refine ⟨rfl, ?_, Nat.le_of_ble_eq_true h3⟩
      rintro rfl
      cases h4
    | negSucc m => cases h
  | _ => cases h
theorem natR_sound {p : PV} {n : Nat} (h : natR p = some n) : Lim (lm n) p ∧ n ≤ 1001 := by
  cases p with
  | nils => cases h; exact ⟨.inl ⟨lm_zero, rfl⟩, by omega⟩
  | vsl cs l cp =>
    cases cs with
    | nil =>
      simp only [natR] at h
      obtain ⟨h1, h2⟩ := bif_some h
      cases h2
      cases beq_t h1
      exact ⟨.inr ⟨cp, by rw [lm_zero]; rfl⟩, by omega⟩
    | cons x r =>
      cases r with
      | nil =>
        simp only [natR] at h
        obtain ⟨h1, h2⟩ := bif_some h
        cases beq_t h1
        obtain ⟨rfl, h3, h4⟩ := natC_sound h2
        exact ⟨.inr ⟨cp, by rw [lm_small h3 (Nat.lt_of_le_of_lt h4 (by decide))]; rfl⟩, h4⟩
      | cons y r => cases h
  | _ => cases h
theorem nosym_natR {p : PV} {n : Nat} (h : natR p = some n) : res ρ p = p := by
  cases p with
  | nils => rfl
  | vsl cs l cp =>
    cases cs with
    | nil => rfl
    | cons x r =>
      cases r with
      | nil =>
        simp only [natR] at h
        obtain ⟨h1, h2⟩ := bif_some h
        obtain ⟨rfl, _, _⟩ := natC_sound h2
        rfl
      | cons y r => cases h
  | _ => cases h
theorem intR_num (c : Int) : ((c : Rat)).num = c := by simp
theorem intR_den (c : Int) : ((c : Rat)).den = 1 := by simp
theorem numOf_sound {a : PV} {e : List Int} (h : numOf a = some e) (hK : NumK ρ xs) : RatC (evr xs e) (res ρ a) ∧ Bd 30 (evr xs e) := by
  cases a with
  | agg l =>
    simp only [numOf] at h
    match l, h with
    | [x, N, D], h =>
      simp only [numL] at h
      cases x with
      | bool s =>
        simp only [num3, numB] at h
        obtain ⟨h1, h2⟩ := bif_some h
        unfold isOne at h1
        cases hD : natR D with
        | none => rw [hD] at h1; cases h1
        | some d =>
          rw [hD] at h1
          cases beq_t h1
          cases hN : natR N with
          | none => rw [hN] at h2; cases h2
          | some n =>
            rw [hN] at h2
            obtain ⟨k1, k2⟩ := natR_sound hN
            obtain ⟨l1, l2⟩ := natR_sound hD
            have eN := nosym_natR (ρ := ρ) hN
            have eD := nosym_natR (ρ := ρ) hD
            have key : ∀ c : Int, s = decide (c < 0) → c.natAbs = n → RatC (c : Rat) (res ρ (.agg [.bool s, N, D])) ∧ Bd 30 (c : Rat) := by
              rintro c rfl rfl
              refine ⟨⟨N, D, ?_, ?_, ?_⟩, ?_, ?_⟩
              · simp only [res, ress, eN, eD, intR_num]
              · rw [intR_num]; exact k1
              · rw [intR_den]; exact l1
              · rw [intR_num]
                exact lm_length.2 (Nat.lt_of_le_of_lt k2 (by decide))
              · rw [intR_den]
                exact lm_length.2 (by decide)
            cases n with
            | zero =>
              simp only at h2
              cases s with
              | true => cases h2
              | false =>
                cases h2
                have := key 0 rfl rfl
                rwa [evr_one]
            | succ m =>
              simp only at h2
              cases h2
              rw [evr_one]
              cases s with
              | true => exact key (.negSucc m) (by simp) rfl
              | false => exact key (.ofNat (Nat.succ m)) (by simp; omega) rfl
      | sym c e0 =>
        simp only [num3] at h
        cases N with
        | sym c' e' =>
          cases D with
          | sym c'' e'' =>
            simp only [numS] at h
            obtain ⟨h1, h2⟩ := bif_some h
            obtain ⟨h3, h4⟩ := and_tt h1
            obtain ⟨h5, h6⟩ := and_tt h4
            cases eqE_eq h3; cases eqE_eq h5
            cases hc : Nat.beq c 0 && (Nat.beq c' 1 && Nat.beq c'' 2) with
            | true =>
              rw [hc] at h2; cases h2
              obtain ⟨g1, g2⟩ := and_tt hc
              obtain ⟨g3, g4⟩ := and_tt g2
              cases beq_t g1; cases beq_t g3; cases beq_t g4
              refine ⟨?_, evr_bd hK.bd h6⟩
              simp only [res, ress, hK.s, hK.n, hK.d]
              exact (canR_p _).c
            | false =>
              rw [hc] at h2
              simp only [cond_false] at h2
              obtain ⟨g0, g5⟩ := bif_some h2
              cases g5
              obtain ⟨g1, g2⟩ := and_tt g0
              obtain ⟨g3, g4⟩ := and_tt g2
              cases beq_t g1; cases beq_t g3; cases beq_t g4
              exact ⟨hK.raw _, evr_bd hK.bd h6⟩
          | _ => cases h
        | _ => cases h
      | _ => cases h
    | [], h => cases h
    | [_], h => cases h
    | [_, _], h => cases h
    | _ :: _ :: _ :: _ :: _, h => cases h
  | _ => cases h
theorem RatC.ww {r : Rat} {v : PV} (h : RatC r v ∧ Bd 30 r) : RatW r v := h.1.w ⟨Nat.le_trans h.2.1 (by decide), Nat.le_trans h.2.2 (by decide)⟩

/-- a number in its normal form stands for its name -/
theorem limR_rep {c : Cx} {m : PM} {w : World} {n : Nat} {p : PV} {v : Value} (h : Lim (lm n) p) (h0 : n = 0 → p = .nils) (hr : Rep c m w p v) : Rep c m w (limR n) v := by
  unfold limR
  rcases h with ⟨h1, rfl⟩ | ⟨cp, rfl⟩
  · rw [h1]; exact hr
  · cases hl : lm n with
    | nil =>
      have := h0 (lm_nil.1 hl)
      rw [hl] at this; cases this
    | cons x r =>
      rw [hl] at hr
      cases hr with
      | vsl _ vs B o _ _ k hf hS hat hr hc hle => exact .vsl _ vs B o _ _ k hf hS hat hr (fun _ h => by cases h) hle
theorem canR_rep {c : Cx} {m : PM} {w : World} {r : Rat} {p : PV} {v : Value} (h : RatP r p) (hr : Rep c m w p v) : Rep c m w (canR r) v := by
  obtain ⟨pn, pd, rfl, h1, h2, h3⟩ := h
  cases hr with
  | agg _ vs hs =>
    cases hs with
    | cons _ v1 _ vs1 a1 hs =>
      cases hs with
      | cons _ v2 _ vs2 a2 hs =>
        cases hs with
        | cons _ v3 _ vs3 a3 hs =>
          cases hs
          refine .agg _ _ (.cons _ _ _ _ a1 (.cons _ _ _ _ (limR_rep h1 (fun h => h2 ?_) a2) (.cons _ _ _ _ (limR_rep h3 (fun h => absurd h r.den_nz) a3) .nil)))
          exact Rat.num_eq_zero.1 (Int.natAbs_eq_zero.1 h)
theorem conR_eq {c : Int} (h : smallI c = true) : conR c = canR (c : Rat) := by
  have hl := small_le h
  have h1 : limR 1 = .vsl [.int .u32 1] 1 none := by
    unfold limR; rw [lm_one]; rfl
  unfold canR
  rw [intR_num, intR_den, h1]
  cases c with
  | ofNat n =>
    simp only [conR]
    rw [show decide (Int.ofNat n < 0) = false from by simp]
    congr 2
    cases n with
    | zero => simp only [oneRow, limR]; rw [show (Int.ofNat 0).natAbs = 0 from rfl, lm_zero]
    | succ n =>
      simp only [oneRow, limR]
      have e : lm (Int.ofNat (n + 1)).natAbs = [n + 1] := lm_small (n := n + 1) (by omega) (Nat.lt_of_le_of_lt hl (by decide))
      rw [e]
      rfl
  | negSucc n =>
    simp only [conR]
    rw [show decide (Int.negSucc n < 0) = true from by simp]
    congr 2
    simp only [oneRow, limR]
    have e : lm (Int.negSucc n).natAbs = [n + 1] := lm_small (n := n + 1) (by omega) (Nat.lt_of_le_of_lt hl (by decide))
    rw [e]
    rfl
theorem mkR_rep {c : Cx} {m : PM} {w : World} {e : List Int} {x p : PV} {v : Value} (hK : NumK ρ xs) (hρ : c.ρ = ρ) (h : mkR e = some x) (hp : RatP (evr xs e) p) (hr : Rep c m w p v) : Rep c m w x v := by
  have h1 := canR_rep hp hr
  cases e with
  | nil =>
    cases h
    rw [conR_eq rfl]
    exact h1
  | cons a r =>
    simp only [mkR] at h
    cases hz : allZ r with
    | true =>
      rw [hz] at h
      simp only [cond_true] at h
      obtain ⟨h2, h3⟩ := bif_some h
      cases h3
      rw [conR_eq h2]
      rwa [evr_allZ hz] at h1
    | false =>
      rw [hz] at h
      cases h
      unfold canR at h1
      cases h1 with
      | agg _ vs hs =>
        cases hs with
        | cons _ v1 _ vs1 a1 hs =>
          cases hs with
          | cons _ v2 _ vs2 a2 hs =>
            cases hs with
            | cons _ v3 _ vs3 a3 hs =>
              cases hs
              refine .agg _ _ (.cons _ _ _ _ (.sym _ _ _ ?_) (.cons _ _ _ _ (.sym _ _ _ ?_) (.cons _ _ _ _ (.sym _ _ _ ?_) .nil)))
              · rw [hρ, hK.s]; exact a1
              · rw [hρ, hK.n]; exact a2
              · rw [hρ, hK.d]; exact a3

/-- a walk as a contract -/
theorem by_ev {P : Program} (hok : EnvOk P (fun _ => True) E) {f : Nat} {l : List PV} {q r : PV} (hev : ∀ m, Ev E f (ress ρ l) m q m) (hq : ∀ (c : Cx) (m : PM) (w : World) (v : Value), c.ρ = ρ → Rep c m w q v → Rep c m w r v)
    {c : Cx} {m : PM} {w : World} {vs : List Value} (hρ : c.ρ = ρ) (hM : MemRel c m w) (hr : Reps c m w l vs) : CallDoes P f vs w fun v w' => ∃ c', Ext c m w c' m w' ∧ MemRel c' m w' ∧ Rep c' m w' r v := by
  subst hρ
  obtain ⟨k, h⟩ := hev m
  refine (evCall_ok hok k k _ _ _ _ _ (h k k (Nat.le_refl _) (Nat.le_refl _)) c w vs trivial hM (hr.res (hflat c))).mono ?_
  rintro v w' ⟨c', h1, h2, h3⟩
  exact ⟨c', h1, h2, hq c' m w' v h1.rho h3⟩
end
end Go.Ab.T
