/- Sizes and memory of the loop. -/
import Derived.Test.YtkidolggnmomcaaGreatDoorCg
import Derived.Test.YtkidolggnmomcaaGreatDoorBe
set_option linter.unusedVariables false
set_option linter.unusedSimpArgs false
/- Sizes, what is loaded, what is told of the engine: for the statement's own loop. -/
open Go Go.Ab
namespace Go.Ab.T
set_option maxRecDepth 10000
set_option linter.unusedSimpArgs false

/-! ### sizes -/
theorem Bd.sz {L : Nat} {r : Rat} (h : Bd L r) : Sz r (BB ^ L) (BB ^ L) := ⟨Nat.le_of_lt (lm_length.1 h.1), Nat.le_of_lt (lm_length.1 h.2)⟩
theorem Bd.add {L M : Nat} {r t : Rat} (h : Bd L r) (h' : Bd M t) : Bd (L + M + 1) (r + t) := by
  refine (h.sz.add h'.sz).to ?_ ?_
  · have hp := Nat.pow_pos (n := L + M) (show 0 < BB by decide)
    rw [← Nat.pow_add, ← Nat.pow_add, Nat.add_comm M L, Nat.pow_succ, Nat.mul_comm]
    have : BB = 4294967296 := rfl
    rw [this] at hp ⊢
    omega
  · have hp := Nat.pow_pos (n := L + M) (show 0 < BB by decide)
    rw [← Nat.pow_add, Nat.pow_succ, Nat.mul_comm]
    have : BB = 4294967296 := rfl
    rw [this] at hp ⊢
    omega
theorem Bd.neg {L : Nat} {r : Rat} (h : Bd L r) : Bd L (-r) := ⟨by rw [Rat.neg_num, Int.natAbs_neg]; exact h.1, by rw [Rat.neg_den]; exact h.2⟩
theorem Bd.zero {L : Nat} (h : 1 ≤ L) : Bd L 0 := ⟨by rw [show (0 : Rat).num.natAbs = 0 from rfl, lm_zero]; exact Nat.zero_le _, by rw [show (0 : Rat).den = 1 from rfl, lm_one]; exact h⟩
theorem sum_bd {f : Nat → Rat} {L : Nat} : ∀ {n : Nat}, (∀ i, i < n → Bd L (f i)) → Bd (n * (L + 1) + 1) (sumTo f n) := by
  intro n
  induction n with
  | zero => intro _; exact Bd.zero (by simp)
  | succ n ih =>
    intro h
    have h1 : Bd (n * (L + 1) + 1 + L + 1) (sumTo f (n + 1)) := (ih fun i hi => h i (by omega)).add (h n (by omega))
    refine h1.le ?_
    rw [Nat.add_mul]
    omega
theorem rest_bd {n t k : Nat} {y : Nat → Rat} (hy : ∀ i, i < n → Bd 2 (y i)) : Bd (n * 3 + 1) (rest y n t k) := sum_bd fun i hi => by
  by_cases h : i = t ∨ i = k
  · simp only [h, if_true]; exact Bd.zero (by decide)
  · simp only [h, if_false]; exact hy i hi
theorem bd100 : Bd 1 (100 : Rat) := by
  constructor
  · exact lm_length.2 (by decide)
  · exact lm_length.2 (by decide)
theorem nm_bd {n t : Nat} {y : Nat → Rat} (hn : n ≤ 8) (hy : ∀ i, i < n → Bd 2 (y i)) (i : Nat) (hi : i < n) : Bd 30 (nm n t y i) := by
  unfold nm
  split
  · rw [Rat.sub_eq_add_neg]
    exact (bd100.add (rest_bd hy).neg).le (by omega)
  · exact (hy i hi).le (by omega)
theorem nmsum_bd {n t : Nat} {y : Nat → Rat} (hn : n ≤ 8) (hy : ∀ i, i < n → Bd 2 (y i)) {i : Nat} (hi : i ≤ n) : Bd 1000 (sumTo (nm n t y) i) :=
  (sum_bd (L := 30) fun j hj => nm_bd hn hy j (by omega)).le (by omega)

/-! ### the engine -/
theorem canC_agg (r : Rat) : PV.agg (canC r) = canR r := rfl
theorem canC_zero : canC 0 = [.bool false, .nils, oneC] := by
  have h := conR_eq (c := 0) rfl
  exact (PV.agg.inj h).symm
theorem canC_hundred : canC 100 = [.bool false, .vsl [.int .u32 100] 1 none, oneC] := by
  have h := conR_eq (c := 100) rfl
  exact (PV.agg.inj h).symm
theorem sum_zero : ∀ {n : Nat}, sumTo (fun _ => (0 : Rat)) n = 0
  | 0 => rfl
  | n + 1 => by simp only [sumTo, sum_zero]; exact Rat.add_zero 0
theorem rest_zero {n t k : Nat} : rest (fun _ => 0) n t k = 0 := by
  unfold rest
  simp only [ite_self]
  exact sum_zero
theorem row_congr {f g : Nat → List PV} : ∀ {j i : Nat}, (∀ l, i ≤ l → l < i + j → f l = g l) → rowR f j i = rowR g j i
  | 0, _, _ => rfl
  | j + 1, i, h => by
    simp only [rowR]
    rw [h i (by omega) (by omega), row_congr fun l h1 h2 => h l (by have := h1; omega) (by have := h2; omega)]
theorem eng0 {n : Nat} : engCs n (doc0 n) .nils = engL n 0 (fun _ => 0) (fun _ => false) 0 := by
  have h1 : vals0 n = rowR (fun i => canC (nm n 0 (fun _ => 0) i)) n 0 := by
    refine row_congr fun i _ _ => ?_
    cases i with
    | zero =>
      simp only [nm, if_true, rest_zero]
      rw [show (100 : Rat) - 0 = 100 by decide +kernel, canC_hundred]
      rfl
    | succ i =>
      simp only [nm]
      rw [if_neg (by omega), canC_zero]
      rfl
  unfold engL doc0 docL
  rw [h1]
  rfl
theorem name_inj {a b : Nat} (ha : a < 8) (hb : b < 8) (h : nameR a = nameR b) : a = b := by
  have h1 : UInt8.ofNat (97 + a) = UInt8.ofNat (97 + b) := by
    have := PV.str.inj h
    exact (List.cons.inj this).1
  have h2 := congrArg UInt8.toNat h1
  simp only [UInt8.toNat_ofNat'] at h2
  omega
theorem eng_inj {n t t' len len' : Nat} {y y' : Nat → Rat} {fil fil' : Nat → Bool} (h : engL n t y fil len = engL n t' y' fil' len') : docL n t y fil = docL n t' y' fil' := by
  unfold engL engCs at h
  have h1 := List.append_cancel_left h
  exact (List.append_inj h1 rfl).1

theorem repA_length : ∀ n : Nat, (repA n).length = n
  | 0 => rfl
  | n + 1 => by simp only [repA, List.length_cons, repA_length n]
theorem past_inj {a b : Nat} (h : pastR a = pastR b) : a = b := by
  cases a with
  | zero => cases b with
    | zero => rfl
    | succ b => cases h
  | succ a => cases b with
    | zero => cases h
    | succ b =>
      have := (PV.vsl.inj h).2.1
      exact this
theorem eng_len {n t t' len len' : Nat} {y y' : Nat → Rat} {fil fil' : Nat → Bool} (h : engL n t y fil len = engL n t' y' fil' len') : len = len' := by
  unfold engL engCs at h
  have h1 := List.append_cancel_left h
  have h2 := (List.append_inj h1 rfl).2
  exact past_inj (List.cons.inj h2).1
/-! ### what is handed in -/
/-- a row of ints -/
def Ed (zs : List Int) (p : PV) : Prop := (zs = [] ∧ p = .nils) ∨ ∃ cp, p = .vsl (zs.map (PV.int .i64)) zs.length cp
/-- cells of numbers -/
def vc (rs : List (Bool × PV × PV)) : List PV := rs.flatMap fun x => [.bool x.1, x.2.1, x.2.2]
def Va (rs : List (Bool × PV × PV)) (p : PV) : Prop := (rs = [] ∧ p = .nils) ∨ ∃ cp, p = .vsl (vc rs) rs.length cp
def RawOk (x : Bool × PV × PV) : Prop := ∃ a b, Lim a x.2.1 ∧ Lim b x.2.2 ∧ Ok a ∧ Ok b
section
variable {E : Env}
theorem len_ed {t es esz eb : Nat} {ez : Option (List PV)} {sz : Nat} {z : Option (List PV)} (ht : E.ty t = some ⟨.slice es esz eb ez, sz, z⟩) {zs : List Int} {p : PV} (h : Ed zs p) : pBuiltin E .len (#[t] : Array TypeId).toList (some [p]) = some (.int .i64 (zs.length : Int)) := by
  rcases h with ⟨rfl, rfl⟩ | ⟨cp, rfl⟩ <;> simp [pBuiltin, tyOf, ht, pLen]
theorem len_va {t es esz eb : Nat} {ez : Option (List PV)} {sz : Nat} {z : Option (List PV)} (ht : E.ty t = some ⟨.slice es esz eb ez, sz, z⟩) {rs : List (Bool × PV × PV)} {p : PV} (h : Va rs p) : pBuiltin E .len (#[t] : Array TypeId).toList (some [p]) = some (.int .i64 (rs.length : Int)) := by
  rcases h with ⟨rfl, rfl⟩ | ⟨cp, rfl⟩ <;> simp [pBuiltin, tyOf, ht, pLen]
theorem len_vsl {t es esz eb : Nat} {ez : Option (List PV)} {sz : Nat} {z : Option (List PV)} (ht : E.ty t = some ⟨.slice es esz eb ez, sz, z⟩) {cs : List PV} {n : Nat} {cp : Option Nat} : pBuiltin E .len (#[t] : Array TypeId).toList (some [.vsl cs n cp]) = some (.int .i64 (n : Int)) := by
  simp [pBuiltin, tyOf, ht, pLen]
end
theorem idx_lt {i n : Nat} (h : i < n) : idx (i : Int) n = some i := by
  show (bif Nat.blt i n then some i else none) = _
  have : Nat.blt i n = true := by simp [Nat.blt]; omega
  rw [this]; rfl
theorem ia_ed {zs : List Int} {p : PV} (h : Ed zs p) {i : Nat} (hi : i < zs.length) : ∃ z tl, pIA (E.ty 22) (some p) (some (.int .i64 (i : Int))) = some (.vptr (.int .i64 z :: tl)) := by
  rcases h with ⟨rfl, rfl⟩ | ⟨cp, rfl⟩
  · simp at hi
  · refine ⟨zs[i], (zs.drop (i + 1)).map (PV.int .i64), ?_⟩
    have e2 : Nat.ble (Nat.mul (Nat.succ i) 1) (zs.map (PV.int .i64)).length = true := by
      rw [List.length_map]
      exact Nat.ble_eq_true_of_le (by show (i + 1) * 1 ≤ _; omega)
    have e3 : (zs.map (PV.int .i64)).drop (Nat.mul i 1) = .int .i64 zs[i] :: (zs.drop (i + 1)).map (PV.int .i64) := by
      rw [show Nat.mul i 1 = i from Nat.mul_one i, List.drop_eq_getElem_cons (by rw [List.length_map]; exact hi)]
      simp
    show (match idx (i : Int) zs.length with
      | some j => bif Nat.ble (Nat.mul (Nat.succ j) 1) (zs.map (PV.int .i64)).length then some (PV.vptr ((zs.map (PV.int .i64)).drop (Nat.mul j 1))) else none
      | none => none) = _
    rw [idx_lt hi]
    simp only [e2, cond_true, e3]
theorem vc_length : ∀ {rs : List (Bool × PV × PV)}, (vc rs).length = rs.length * 3
  | [] => rfl
  | x :: rs => by
    have := vc_length (rs := rs)
    unfold vc at this ⊢
    simp only [List.flatMap_cons, List.length_append, this, List.length_cons, List.length_nil]
    omega
theorem vc_drop : ∀ {rs : List (Bool × PV × PV)} {i : Nat} {x : Bool × PV × PV}, rs[i]? = some x → ∃ tl, (vc rs).drop (i * 3) = .bool x.1 :: x.2.1 :: x.2.2 :: tl
  | [], i, x, h => by simp at h
  | y :: rs, 0, x, h => by
    simp only [List.getElem?_cons_zero, Option.some.injEq] at h
    subst h
    exact ⟨vc rs, rfl⟩
  | y :: rs, i + 1, x, h => by
    simp only [List.getElem?_cons_succ] at h
    obtain ⟨tl, ht⟩ := vc_drop h
    refine ⟨tl, ?_⟩
    rw [show (i + 1) * 3 = i * 3 + 3 by omega]
    show ((.bool y.1 :: y.2.1 :: y.2.2 :: vc rs : List PV)).drop (i * 3 + 3) = _
    rw [List.drop_succ_cons, List.drop_succ_cons, List.drop_succ_cons]
    exact ht
theorem ia_va {rs : List (Bool × PV × PV)} {p : PV} (h : Va rs p) {i : Nat} {x : Bool × PV × PV} (hx : rs[i]? = some x) : ∃ tl, pIA (E.ty 23) (some p) (some (.int .i64 (i : Int))) = some (.vptr (.bool x.1 :: x.2.1 :: x.2.2 :: tl)) := by
  have hi : i < rs.length := (List.getElem?_eq_some_iff.1 hx).1
  rcases h with ⟨rfl, rfl⟩ | ⟨cp, rfl⟩
  · simp at hi
  · obtain ⟨tl, ht⟩ := vc_drop hx
    refine ⟨tl, ?_⟩
    have e2 : Nat.ble (Nat.mul (Nat.succ i) 3) (vc rs).length = true := by
      rw [vc_length]
      exact Nat.ble_eq_true_of_le (by show (i + 1) * 3 ≤ _; omega)
    show (match idx (i : Int) rs.length with
      | some j => bif Nat.ble (Nat.mul (Nat.succ j) 3) (vc rs).length then some (PV.vptr ((vc rs).drop (Nat.mul j 3))) else none
      | none => none) = _
    rw [idx_lt hi]
    simp only [e2, cond_true]
    rw [show Nat.mul i 3 = i * 3 from rfl, ht]
theorem row3_length {f : Nat → Rat} : ∀ {j i : Nat}, (rowR (fun i => canC (f i)) j i).length = j * 3
  | 0, _ => rfl
  | j + 1, i => by
    simp only [rowR, List.length_append, row3_length]
    show 3 + j * 3 = _
    omega
theorem row3_drop {f : Nat → Rat} : ∀ {j i l : Nat}, l < j → ∃ tl, (rowR (fun i => canC (f i)) j i).drop (l * 3) = canC (f (i + l)) ++ tl
  | 0, _, _, h => absurd h (Nat.not_lt_zero _)
  | j + 1, i, 0, _ => ⟨_, rfl⟩
  | j + 1, i, l + 1, h => by
    obtain ⟨tl, ht⟩ := row3_drop (f := f) (i := i + 1) (l := l) (j := j) (by omega)
    refine ⟨tl, ?_⟩
    rw [show (l + 1) * 3 = 3 + l * 3 by omega, ← List.drop_drop]
    show (rowR (fun i => canC (f i)) j (i + 1)).drop (l * 3) = _
    rw [ht, show i + 1 + l = i + (l + 1) by omega]
theorem ia_names {b g n i : Nat} (hi : i < n) : pIA (E.ty 29) (some (.msl b g 0 n 4)) (some (.int .i64 (i : Int))) = some (.ptr b g (i * 4)) := by
  show (match idx (i : Int) n with
    | some j => some (PV.ptr b g (Nat.add 0 (Nat.mul j 4)))
    | none => none) = _
  rw [idx_lt hi]
  show some (PV.ptr b g (0 + i * 4)) = _
  rw [Nat.zero_add]
theorem st_ans {m : PM} {b : Nat} {x y z : PV} (hb : m.get b = some (.cells [x, y, z] 0 false 53)) : mStore (E.ty 53) m (some (.ptr b 0 0)) (some ansOk) = some (undefPV, m.upd b (.cells [.int .i64 0, .nils, .str []] 0 false 53)) := by
  rw [show E.ty 53 = some ⟨.struct [⟨0, 1, false⟩, ⟨1, 1, false⟩, ⟨2, 1, false⟩], 3, some [.int .i64 0, .nils, .str []]⟩ from rfl]
  simp only [mStore, hb]; rfl
theorem st_doc {m : PM} {b n t : Nat} {y : Nat → Rat} {fil : Nat → Bool} {c1 c2 c3 c4 c5 c6 : PV} (hb : m.get b = some (.cells [c1, c2, c3, c4, c5, c6] 0 false 60)) : mStore (E.ty 60) m (some (.ptr b 0 0)) (some (.agg (docL n t y fil))) = some (undefPV, m.upd b (.cells (docL n t y fil) 0 false 60)) := by
  rw [show E.ty 60 = some ⟨.struct [⟨0, 1, false⟩, ⟨1, 1, false⟩, ⟨2, 1, false⟩, ⟨3, 1, false⟩, ⟨4, 1, false⟩, ⟨5, 1, false⟩], 6, some [.nils, .nils, .nils, .nils, .nils, .nils]⟩ from rfl]
  simp only [mStore, hb]; rfl
theorem ia_row {f : Nat → Rat} {n i : Nat} (hi : i < n) : ∃ tl, pIA (E.ty 23) (some (.vsl (rowR (fun i => canC (f i)) n 0) n none)) (some (.int .i64 (i : Int))) = some (.vptr (canC (f i) ++ tl)) := by
  obtain ⟨tl, ht⟩ := row3_drop (f := f) (i := 0) hi
  refine ⟨tl, ?_⟩
  have e2 : Nat.ble (Nat.mul (Nat.succ i) 3) (rowR (fun i => canC (f i)) n 0).length = true := by
    rw [row3_length]
    exact Nat.ble_eq_true_of_le (by show (i + 1) * 3 ≤ _; omega)
  show (match idx (i : Int) n with
    | some j => bif Nat.ble (Nat.mul (Nat.succ j) 3) (rowR (fun i => canC (f i)) n 0).length then some (PV.vptr ((rowR (fun i => canC (f i)) n 0).drop (Nat.mul j 3))) else none
    | none => none) = _
  rw [idx_lt hi]
  simp only [e2, cond_true]
  rw [show Nat.mul i 3 = i * 3 from rfl, ht, Nat.zero_add]
theorem ld_v36 {m : PM} {x y z : PV} {tl : List PV} : mLoad (E.ty 36) m (some (.vptr (x :: y :: z :: tl))) = some (.agg [x, y, z], m) := rfl
theorem ld_v34 {m : PM} {x : PV} {tl : List PV} : mLoad (E.ty 34) m (some (.vptr (x :: tl))) = some (x, m) := rfl
theorem ld_v3 {m : PM} {x : PV} {tl : List PV} : mLoad (E.ty 3) m (some (.vptr (x :: tl))) = some (x, m) := rfl
theorem cut_nth : ∀ {cs : List PV} {k : Nat} {p : PV}, nthN cs k = some p → cutN cs k 1 = some [p] := by
  intro cs k p h
  rw [nthN_eq] at h
  have hi := (List.getElem?_eq_some_iff.1 h).1
  unfold cutN
  rw [show Nat.ble (Nat.add k 1) cs.length = true from Nat.ble_eq_true_of_le hi]
  simp only [cond_true]
  rw [List.drop_eq_getElem_cons hi]
  congr 1
  have := (List.getElem?_eq_some_iff.1 h).2
  simp [this]
theorem ld_f {m : PM} {cs : List PV} {b g k et : Nat} {fr : Bool} {p : PV} {t : Option TI} {ti : TI} (ht : t = some ti) (hs : ti.sz = 1) (ha : ti.agg = false) (hb : m.get b = some (.cells cs g fr et)) (hk : nthN cs k = some p) : mLoad t m (some (.ptr b g k)) = some (p, m) := by
  subst ht
  have hg : Nat.beq g g = true := Nat.beq_refl g
  simp only [mLoad, ldCells, hb, hg, cond_true, hs, cut_nth hk, ha, cond_false]
theorem names_ok : allN (fun n => allN (fun k => match nthN (fieldsR (n + 2)) (k * 4) with
    | some p => eqPV p (nameR k)
    | none => false) (n + 2)) 7 = true := by kernel_rfl
theorem name_at {n k : Nat} (h1 : 2 ≤ n) (h2 : n ≤ 8) (hk : k < n) : nthN (fieldsR n) (k * 4) = some (nameR k) := by
  obtain ⟨n', rfl⟩ : ∃ n', n = n' + 2 := ⟨n - 2, by omega⟩
  have a := allN_get (f := fun n => allN (fun k => match nthN (fieldsR (n + 2)) (k * 4) with
    | some p => eqPV p (nameR k)
    | none => false) (n + 2)) names_ok (by omega : n' < 7)
  have b := allN_get (f := fun k => match nthN (fieldsR (n' + 2)) (k * 4) with
    | some p => eqPV p (nameR k)
    | none => false) a hk
  split at b
  · rename_i p hp
    rw [hp, eqPV_eq b]
  · cases b
/-! ### the loop's ints -/
theorem b_and1023 (z : Int) : ∃ x : Nat, x ≤ 1023 ∧ ∀ (K : Option TI) (cst : Bool), bin2 K cst .and (.int .i64 z) (.int .i64 1023) = some (.int .i64 (x : Int)) := by
  refine ⟨Nat.land (low .i64 z) 1023, Nat.and_le_right, fun K cst => ?_⟩
  show some (PV.int .i64 (IntKind.i64.wrap (Int.ofNat (Nat.land (low .i64 z) (low .i64 1023))))) = _
  have e : low .i64 1023 = 1023 := rfl
  rw [e]
  have h : Nat.land (low .i64 z) 1023 ≤ 1023 := Nat.and_le_right
  generalize Nat.land (low .i64 z) 1023 = x at h
  congr 2
  show IntKind.i64.wrap (x : Int) = x
  exact wrapI (by omega) (by omega)
theorem flat1_3 {s : Bool} {a b : List Nat} {pa pb : PV} (h1 : Lim a pa) (h2 : Lim b pb) : flat1s [.agg [.bool s, pa, pb]] = true := by
  simp only [flat1s, flat1, flats3 (rfl : flat (.bool s) = true) h1.flat h2.flat, cond_true]
theorem flat1_33 {s s' : Bool} {a b a' b' : List Nat} {pa pb pa' pb' : PV} (h1 : Lim a pa) (h2 : Lim b pb) (h3 : Lim a' pa') (h4 : Lim b' pb') : flat1s [.agg [.bool s, pa, pb], .agg [.bool s', pa', pb']] = true := by
  simp only [flat1s, flat1, flats3 (rfl : flat (.bool s) = true) h1.flat h2.flat, flats3 (rfl : flat (.bool s') = true) h3.flat h4.flat, cond_true]
/-- the memory of the loop -/
structure Mem (n t : Nat) (y : Nat → Rat) (fil : Nat → Bool) (len : Nat) (me : PM) : Prop where
  f : ∃ cs, me.get 0 = some (.cells cs 0 false 33) ∧ nthN cs 3 = some (.msl 2 (Nat.pred n) 0 n 4)
  F : me.get 2 = some (.cells (fieldsR n) (Nat.pred n) true 42)
  e : me.get 6 = some (.cells (engL n t y fil len) 0 false 76)
  nx : 7 ≤ me.next
section
variable {n t len t' len' : Nat} {y y' : Nat → Rat} {fil fil' : Nat → Bool} {me : PM}
theorem Mem.new (h : Mem n t y fil len me) (x : Blk) : Mem n t y fil len (me.new x) := by
  have hn := h.nx
  obtain ⟨cs, h1, h2⟩ := h.f
  refine ⟨⟨cs, ?_, h2⟩, ?_, ?_, ?_⟩
  · rw [PM.get_new, if_neg (by omega)]; exact h1
  · rw [PM.get_new, if_neg (by omega)]; exact h.F
  · rw [PM.get_new, if_neg (by omega)]; exact h.e
  · rw [PM.next_new]; omega
theorem Mem.upd (h : Mem n t y fil len me) {b : Nat} (hb : 7 ≤ b) (x : Blk) : Mem n t y fil len (me.upd b x) := by
  obtain ⟨cs, h1, h2⟩ := h.f
  refine ⟨⟨cs, ?_, h2⟩, ?_, ?_, h.nx⟩
  · rw [PM.get_upd, if_neg (by omega)]; exact h1
  · rw [PM.get_upd, if_neg (by omega)]; exact h.F
  · rw [PM.get_upd, if_neg (by omega)]; exact h.e
theorem Mem.eng (h : Mem n t y fil len me) : Mem n t' y' fil' len' (me.upd 6 (.cells (engL n t' y' fil' len') 0 false 76)) := by
  obtain ⟨cs, h1, h2⟩ := h.f
  refine ⟨⟨cs, ?_, h2⟩, ?_, ?_, h.nx⟩
  · rw [PM.get_upd, if_neg (by decide)]; exact h1
  · rw [PM.get_upd, if_neg (by decide)]; exact h.F
  · rw [PM.get_upd, if_pos rfl]
end
end Go.Ab.T
