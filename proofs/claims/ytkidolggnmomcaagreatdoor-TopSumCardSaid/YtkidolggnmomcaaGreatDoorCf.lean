/- An edit of the engine does what the plain law says, for all numbers. -/
import Derived.Test.YtkidolggnmomcaaGreatDoorCe
import Derived.Test.YtkidolggnmomcaaGreatDoorKd
import Derived.Test.YtkidolggnmomcaaGreatDoorK2
import Derived.Test.YtkidolggnmomcaaGreatDoorK3
import Derived.Test.YtkidolggnmomcaaGreatDoorK4
import Derived.Test.YtkidolggnmomcaaGreatDoorK5
import Derived.Test.YtkidolggnmomcaaGreatDoorK6
import Derived.Test.YtkidolggnmomcaaGreatDoorK7
import Derived.Test.YtkidolggnmomcaaGreatDoorK8
set_option linter.unusedVariables false
set_option linter.unusedSimpArgs false
/- An edit of the engine, and its document: what they do, for all numbers. -/
open Go Go.Ab
namespace Go.Ab.T
set_option maxRecDepth 10000
set_option linter.unusedSimpArgs false

/-! ### all runs -/
theorem edit_all : ∀ n t k : Nat, 2 ≤ n → n ≤ 8 → t < 2 → k < n → runEdit n t k = true := by
  intro n t k h1 h2 h3 h4
  have hn : n = 2 ∨ n = 3 ∨ n = 4 ∨ n = 5 ∨ n = 6 ∨ n = 7 ∨ n = 8 := by omega
  have ht : t = 0 ∨ t = 1 := by omega
  rcases hn with rfl | rfl | rfl | rfl | rfl | rfl | rfl <;> rcases ht with rfl | rfl
  · exact allN_get (f := fun k => runEdit 2 0 k) (n := 2) (by simp only [allN, edit2_0_0, edit2_0_1, Bool.and_self]) h4
  · exact allN_get (f := fun k => runEdit 2 1 k) (n := 2) (by simp only [allN, edit2_1_0, edit2_1_1, Bool.and_self]) h4
  · exact allN_get (f := fun k => runEdit 3 0 k) (n := 3) (by simp only [allN, edit3_0_0, edit3_0_1, edit3_0_2, Bool.and_self]) h4
  · exact allN_get (f := fun k => runEdit 3 1 k) (n := 3) (by simp only [allN, edit3_1_0, edit3_1_1, edit3_1_2, Bool.and_self]) h4
  · exact allN_get (f := fun k => runEdit 4 0 k) (n := 4) (by simp only [allN, edit4_0_0, edit4_0_1, edit4_0_2, edit4_0_3, Bool.and_self]) h4
  · exact allN_get (f := fun k => runEdit 4 1 k) (n := 4) (by simp only [allN, edit4_1_0, edit4_1_1, edit4_1_2, edit4_1_3, Bool.and_self]) h4
  · exact allN_get (f := fun k => runEdit 5 0 k) (n := 5) (by simp only [allN, edit5_0_0, edit5_0_1, edit5_0_2, edit5_0_3, edit5_0_4, Bool.and_self]) h4
  · exact allN_get (f := fun k => runEdit 5 1 k) (n := 5) (by simp only [allN, edit5_1_0, edit5_1_1, edit5_1_2, edit5_1_3, edit5_1_4, Bool.and_self]) h4
  · exact allN_get (f := fun k => runEdit 6 0 k) (n := 6) (by simp only [allN, edit6_0_0, edit6_0_1, edit6_0_2, edit6_0_3, edit6_0_4, edit6_0_5, Bool.and_self]) h4
  · exact allN_get (f := fun k => runEdit 6 1 k) (n := 6) (by simp only [allN, edit6_1_0, edit6_1_1, edit6_1_2, edit6_1_3, edit6_1_4, edit6_1_5, Bool.and_self]) h4
  · exact allN_get (f := fun k => runEdit 7 0 k) (n := 7) (by simp only [allN, edit7_0_0, edit7_0_1, edit7_0_2, edit7_0_3, edit7_0_4, edit7_0_5, edit7_0_6, Bool.and_self]) h4
  · exact allN_get (f := fun k => runEdit 7 1 k) (n := 7) (by simp only [allN, edit7_1_0, edit7_1_1, edit7_1_2, edit7_1_3, edit7_1_4, edit7_1_5, edit7_1_6, Bool.and_self]) h4
  · exact allN_get (f := fun k => runEdit 8 0 k) (n := 8) (by simp only [allN, edit8_0_0, edit8_0_1, edit8_0_2, edit8_0_3, edit8_0_4, edit8_0_5, edit8_0_6, edit8_0_7, Bool.and_self]) h4
  · exact allN_get (f := fun k => runEdit 8 1 k) (n := 8) (by simp only [allN, edit8_1_0, edit8_1_1, edit8_1_2, edit8_1_3, edit8_1_4, edit8_1_5, edit8_1_6, edit8_1_7, Bool.and_self]) h4
theorem static_all : ∀ n : Nat, 2 ≤ n → n ≤ 8 → runStatic n = true := by
  intro n h1 h2
  have hn : n = 2 ∨ n = 3 ∨ n = 4 ∨ n = 5 ∨ n = 6 ∨ n = 7 ∨ n = 8 := by omega
  rcases hn with rfl | rfl | rfl | rfl | rfl | rfl | rfl
  · exact static2
  · exact static3
  · exact static4
  · exact static5
  · exact static6
  · exact static7
  · exact static8
theorem sides_all : ∀ n : Nat, 2 ≤ n → n ≤ 8 → runSides n = true := by
  intro n h1 h2
  have hn : n = 2 ∨ n = 3 ∨ n = 4 ∨ n = 5 ∨ n = 6 ∨ n = 7 ∨ n = 8 := by omega
  rcases hn with rfl | rfl | rfl | rfl | rfl | rfl | rfl
  · exact sides2
  · exact sides3
  · exact sides4
  · exact sides5
  · exact sides6
  · exact sides7
  · exact sides8
theorem new_all : ∀ n : Nat, 2 ≤ n → n ≤ 8 → runNew n = true := by
  intro n h1 h2
  have hn : n = 2 ∨ n = 3 ∨ n = 4 ∨ n = 5 ∨ n = 6 ∨ n = 7 ∨ n = 8 := by omega
  rcases hn with rfl | rfl | rfl | rfl | rfl | rfl | rfl
  · exact new2
  · exact new3
  · exact new4
  · exact new5
  · exact new6
  · exact new7
  · exact new8
theorem is_all : ∀ n t : Nat, 2 ≤ n → n ≤ 8 → t < 2 → runIs n t = true := by
  intro n t h1 h2 h3
  have hn : n = 2 ∨ n = 3 ∨ n = 4 ∨ n = 5 ∨ n = 6 ∨ n = 7 ∨ n = 8 := by omega
  have ht : t = 0 ∨ t = 1 := by omega
  rcases hn with rfl | rfl | rfl | rfl | rfl | rfl | rfl <;> rcases ht with rfl | rfl
  · exact is2_0
  · exact is2_1
  · exact is3_0
  · exact is3_1
  · exact is4_0
  · exact is4_1
  · exact is5_0
  · exact is5_1
  · exact is6_0
  · exact is6_1
  · exact is7_0
  · exact is7_1
  · exact is8_0
  · exact is8_1
theorem print_all : ∀ n t : Nat, 2 ≤ n → n ≤ 8 → t < 2 → runPrint n t = true := by
  intro n t h1 h2 h3
  have hn : n = 2 ∨ n = 3 ∨ n = 4 ∨ n = 5 ∨ n = 6 ∨ n = 7 ∨ n = 8 := by omega
  have ht : t = 0 ∨ t = 1 := by omega
  rcases hn with rfl | rfl | rfl | rfl | rfl | rfl | rfl <;> rcases ht with rfl | rfl
  · exact print2_0
  · exact print2_1
  · exact print3_0
  · exact print3_1
  · exact print4_0
  · exact print4_1
  · exact print5_0
  · exact print5_1
  · exact print6_0
  · exact print6_1
  · exact print7_0
  · exact print7_1
  · exact print8_0
  · exact print8_1
theorem do_run {n t k : Nat} (h1 : 2 ≤ n) (h2 : n ≤ 8) (h3 : t < 2) (h4 : k < n) : runDo n t k = true := by
  obtain ⟨n', rfl⟩ : ∃ n', n = n' + 2 := ⟨n - 2, by omega⟩
  have a := allN_get (f := fun n => allN (fun t => allN (fun k => runDo (n + 2) t k) (n + 2)) 2) do_all (by omega : n' < 7)
  have b := allN_get (f := fun t => allN (fun k => runDo (n' + 2) t k) (n' + 2)) a h3
  exact allN_get (f := fun k => runDo (n' + 2) t k) b h4
theorem doc_run {n t : Nat} (h1 : 2 ≤ n) (h2 : n ≤ 8) (h3 : t < 2) : runDoc n t = true := by
  obtain ⟨n', rfl⟩ : ∃ n', n = n' + 2 := ⟨n - 2, by omega⟩
  have a := allN_get (f := fun n => allN (fun t => runDoc (n + 2) t) 2) doc_all (by omega : n' < 7)
  exact allN_get (f := fun t => runDoc (n' + 2) t) a h3
theorem nosym_form : allN (fun n => nosyms (formCs (n + 2))) 7 = true := by kernel_rfl
/-- what looks into no memory -/
structure Stiffs (n t k : Nat) : Prop where
  form : stiffs [formR n] = true
  sides : stiffs (sidesIn n) = true
  con : stiff (.tup [conOf n, .int .i64 0]) = true
  isIn : stiffs [formR n, .agg (docIn n t)] = true
  engI : stiffs (engIn n t) = true
  engO : stiffs (engOut n t k) = true
  op : stiffs [opR n k] = true
  edit : stiffs [formR n, .agg (docIn n t), nameR k, .agg (rawC (unitE n))] = true
  out : stiff (okErr (.agg (docOut n t k))) = true
  doc : stiff (.agg (docIn n t)) = true
  new : stiff (okErr (.agg (doc0 n))) = true
theorem stiff_ok {n t k : Nat} (h1 : 2 ≤ n) (h2 : n ≤ 8) (h3 : t < 2) (h4 : k < n) : Stiffs n t k := by
  obtain ⟨n', rfl⟩ : ∃ n', n = n' + 2 := ⟨n - 2, by omega⟩
  have a := allN_get (f := fun n => allN (fun t => allN (fun k => stiffAll (n + 2) t k) (n + 2)) 2) stiff_all (by omega : n' < 7)
  have b := allN_get (f := fun t => allN (fun k => stiffAll (n' + 2) t k) (n' + 2)) a h3
  have h := allN_get (f := fun k => stiffAll (n' + 2) t k) b h4
  unfold stiffAll at h
  obtain ⟨a1, h⟩ := and_tt h
  obtain ⟨a2, h⟩ := and_tt h
  obtain ⟨a3, h⟩ := and_tt h
  obtain ⟨a4, h⟩ := and_tt h
  obtain ⟨a5, h⟩ := and_tt h
  obtain ⟨a6, h⟩ := and_tt h
  obtain ⟨a7, h⟩ := and_tt h
  obtain ⟨a8, h⟩ := and_tt h
  obtain ⟨a9, h⟩ := and_tt h
  obtain ⟨a10, a11⟩ := and_tt h
  exact ⟨a1, a2, a3, a4, a5, a6, a7, a8, a9, a10, a11⟩

mutual
theorem res_nosym (ρ : Nat → List Int → PV) : ∀ {p : PV}, nosym p = true → res ρ p = p
  | .sym .., h => by cases h
  | .vptr cs, h => by simp only [res, ress_nosym ρ (p := cs) h]
  | .vsl cs _ _, h => by simp only [res, ress_nosym ρ (p := cs) h]
  | .clo _ a b, h => by
    obtain ⟨h1, h2⟩ := and_tt (h : (nosyms a && nosyms b) = true)
    simp only [res, ress_nosym ρ h1, ress_nosym ρ h2]
  | .ifc _ x, h => by simp only [res, res_nosym ρ (p := x) h]
  | .agg cs, h => by simp only [res, ress_nosym ρ (p := cs) h]
  | .tup cs, h => by simp only [res, ress_nosym ρ (p := cs) h]
  | .int .., _ => rfl
  | .bool _, _ => rfl
  | .str _, _ => rfl
  | .anyS _, _ => rfl
  | .nilp, _ => rfl
  | .ptr .., _ => rfl
  | .nils, _ => rfl
  | .msl .., _ => rfl
  | .nilm, _ => rfl
  | .map _, _ => rfl
  | .nilf, _ => rfl
  | .nili, _ => rfl
theorem ress_nosym (ρ : Nat → List Int → PV) : ∀ {p : List PV}, nosyms p = true → ress ρ p = p
  | [], _ => rfl
  | x :: xs, h => by
    obtain ⟨h1, h2⟩ := and_tt (h : (nosym x && nosyms xs) = true)
    simp only [ress, res_nosym ρ h1, ress_nosym ρ h2]
end

/-! ### the environments are told the truth -/
theorem ConOk.mono {P : Program} {K K' : (Nat → List Int → PV) → Prop} {f : Nat} {g : List PV → Option PV} (h : ConOk P K f g) (hk : ∀ ρ, K' ρ → K ρ) : ConOk P K' f g :=
  fun l r hl hr c m w vs hK => h l r hl hr c m w vs (hk _ hK)
theorem KP.pl (ρ : Nat → List Int → PV) (h : KP ρ) : PlainR ρ := K1.pl ρ h.k
theorem anyS_le {c : Cx} {m : PM} {w : World} {a b : Nat} {v : Value} (h : Rep c m w (.anyS a) v) (hl : a ≤ b) : Rep c m w (.anyS b) v := by
  cases h with
  | anyS _ s hs => exact .anyS _ _ (Nat.le_trans hs hl)
theorem con_doc {n t : Nat} (hrun : runPrint n t = true) (hs : stiff (.agg (docIn n t)) = true) : ConOk P K1 66 (memo [.agg (docIn n t)] (.anyS 10000000)) := by
  intro l r' _ hg c m w vs hK hM hvs
  obtain ⟨h1, h2⟩ := bif_some hg
  cases h2
  cases eqFs_eq h1
  unfold runPrint saysText at hrun
  split at hrun
  · rename_i k m1 h3
    have hp := K1.pl _ hK
    have hst : stiffs [PV.agg (docIn n t)] = true := by
      show (stiff _ && stiffs []) = true
      rw [hs]; rfl
    refine (lift okE1 hp hK h3 hst rfl hM (hvs.res (hflat c))).mono ?_
    rintro v w' ⟨c', e1, e2, e3⟩
    exact ⟨c', e1, e2, anyS_le e3 (Nat.le_of_ble_eq_true hrun)⟩
  · cases hrun
theorem con_push : ConOk P KP 65 cPush := by
  intro l r' _ hg c m w vs hK hM hvs
  match l, hg with
  | [a, b], hg =>
    simp only [cPush] at hg
    obtain ⟨h1, h2⟩ := bif_some hg
    cases eqF_eq h1
    cases b with
    | anyS k =>
      simp only at h2
      obtain ⟨h3, h4⟩ := bif_some h2
      cases h4
      obtain ⟨len, hl, hp0, hp1⟩ := hK.past
      have hpl := KP.pl _ hK
      have hrun : runPush len = true := allN_get push_all (by omega)
      obtain ⟨m1, hr⟩ := says_eq hrun
      obtain ⟨q1, q2, _⟩ := plain_past len
      obtain ⟨q3, q4, _⟩ := plain_past (len + 1)
      have hst : stiffs [PV.agg [pastR len, .nils], .anyS 10000000] = true := by
        show ((stiff (pastR len) && true) && true) = true
        rw [q2]; rfl
      have hns : nosyms [PV.agg [pastR len, .nils], .anyS 10000000] = true := by
        show ((nosym (pastR len) && true) && true) = true
        rw [q1]; rfl
      have hst2 : stiff (PV.agg [pastR (len + 1), .nils]) = true := by
        show (stiff (pastR (len + 1)) && true) = true
        rw [q4]; rfl
      have hns2 : nosym (PV.agg [pastR (len + 1), .nils]) = true := by
        show (nosym (pastR (len + 1)) && true) = true
        rw [q3]; rfl
      have hvs' : Reps c m w (ress c.ρ [PV.agg [pastR len, .nils], .anyS 10000000]) vs := by
        rw [ress_nosym _ hns]
        cases hvs with
        | cons _ v1 _ vs1 a1 hvs =>
          cases hvs with
          | cons _ v2 _ vs2 a2 hvs =>
            cases hvs
            refine .cons _ _ _ _ ?_ (.cons _ _ _ _ (anyS_le a2 (Nat.le_of_ble_eq_true h3)) .nil)
            cases a1 with
            | agg _ us hus =>
              cases hus with
              | cons _ u1 _ us1 b1 hus =>
                refine .agg _ _ (.cons _ _ _ _ ?_ hus)
                cases b1 with
                | sym _ _ _ h =>
                  have e : c.ρ 8 [Int.ofNat 0] = pastR len := hp0
                  rw [e] at h
                  exact h
      refine (lift okE1 hpl hK.k hr hst hst2 hM hvs').mono ?_
      rintro v w' ⟨c', e1, e2, e3⟩
      refine ⟨c', e1, e2, ?_⟩
      rw [res_nosym _ hns2] at e3
      cases e3 with
      | agg _ us hus =>
        cases hus with
        | cons _ u1 _ us1 b1 hus =>
          refine .agg _ _ (.cons _ _ _ _ (.sym _ _ _ ?_) hus)
          have e : c'.ρ 8 [Int.ofNat 1] = pastR (len + 1) := by rw [e1.rho]; exact hp1
          rw [e]
          exact b1
    | _ => cases h2
  | [], hg => cases hg
  | [_], hg => cases hg
  | _ :: _ :: _ :: _, hg => cases hg
theorem okED {n t k : Nat} (h1 : 2 ≤ n) (h2 : n ≤ 8) (h3 : t < 2) (h4 : k < n) : EnvOk P KP (ED n t k) := by
  have S := stiff_ok h1 h2 h3 h4
  have o2 := okE2 (static_all n h1 h2) (sides_all n h1 h2) S.form S.sides S.con
  have o3 := okE3 o2 (is_all n t h1 h2 h3) S.isIn
  refine withExt_ok (EnvOk.mono okE1 fun ρ h => h.k) fun f g hg => ?_
  unfold doX at hg
  cases hb : Nat.beq f 66 with
  | true =>
    rw [hb] at hg
    cases hg
    cases beq_t hb
    exact (con_doc (print_all n t h1 h2 h3) S.doc).mono fun ρ h => h.k
  | false =>
    rw [hb] at hg
    simp only [cond_false] at hg
    cases hb : Nat.beq f 65 with
    | true =>
      rw [hb] at hg
      cases hg
      cases beq_t hb
      exact con_push
    | false =>
      rw [hb] at hg
      simp only [cond_false] at hg
      obtain ⟨h5, h6⟩ := bif_some hg
      cases h6
      cases beq_t h5
      exact (memo_ok o3 K1.pl (edit_all n t k h1 h2 h3 h4) S.edit S.out).mono fun ρ h => h.k

/-! ### the engine -/
def engL (n t : Nat) (y : Nat → Rat) (fil : Nat → Bool) (len : Nat) : List PV := engCs n (docL n t y fil) (pastR len)
theorem res_form {n : Nat} (h1 : 2 ≤ n) (h2 : n ≤ 8) (ρ : Nat → List Int → PV) : ress ρ (formCs n) = formCs n := by
  obtain ⟨n', rfl⟩ : ∃ n', n = n' + 2 := ⟨n - 2, by omega⟩
  exact ress_nosym ρ (allN_get (f := fun n => nosyms (formCs (n + 2))) nosym_form (by omega : n' < 7))
theorem saysM_eq {r : Option (PV × PM)} {x : PV} {cs : List PV} {et : Nat} (h : saysM r x cs et = true) : ∃ y m m', r = some (y, m) ∧ reify 12 m y = some (x, m') ∧ m'.get 0 = some (.cells cs 0 false et) := by
  unfold saysM at h
  split at h
  · rename_i y m
    split at h
    · rename_i z m' hz
      obtain ⟨h1, h2⟩ := and_tt h
      cases eqF_eq h1
      refine ⟨y, m, m', rfl, hz, ?_⟩
      unfold holds0 at h2
      split at h2
      · rename_i cs' g fr et' he
        obtain ⟨h3, h4⟩ := and_tt h2
        obtain ⟨h5, h6⟩ := and_tt h4
        obtain ⟨h7, h8⟩ := and_tt h6
        cases beq_t h3; cases beq_t h7
        cases eqFs_eq h8
        cases fr with
        | true => cases h5
        | false => exact he
      · cases h2
    · cases h
  · cases h
section
variable {n t k len : Nat} {y : Nat → Rat} {v : Rat} {s : Bool} {pa pb : PV} {fil : Nat → Bool}
/-- what an edit is handed -/
structure EditOk (n t k : Nat) (y : Nat → Rat) (v : Rat) (s : Bool) (pa pb : PV) (len : Nat) : Prop where
  n1 : 2 ≤ n
  n2 : n ≤ 8
  ht : t < 2
  hk : k < n
  hy : ∀ i, i < n → Bd 2 (y i)
  hv : Bd 2 v
  raw : RatC v (.agg [.bool s, pa, pb])
  hl : len ≤ 12
def opL (k : Nat) (s : Bool) (pa pb : PV) : PV := .agg [.int .i64 1, nameR k, .bool s, pa, pb, .bool false]
theorem rhoE_ok (h : EditOk n t k y v s pa pb len) : KP (rhoE n y v s pa pb fil len) := by
  refine rho_ok (fun x hx => ?_) ?_ h.hl
  · rcases List.mem_append.1 hx with h1 | h1
    · obtain ⟨l, _, h3, rfl⟩ := lst_mem h1
      exact h.hy l (by omega)
    · rw [List.mem_singleton] at h1
      rw [h1]; exact h.hv
  · rw [evr_last]; exact h.raw
theorem res_engIn (h1 : 2 ≤ n) (h2 : n ≤ 8) : ress (rhoE n y v s pa pb fil len) (engIn n t) = engL n t y fil len := by
  unfold engIn engL engCs
  rw [ress_app, ress_app, res_form h1 h2, res_in]
  rfl
theorem res_engOut (h1 : 2 ≤ n) (h2 : n ≤ 8) (hk : k < n) : ress (rhoE n y v s pa pb fil len) (engOut n t k) = engL n (toldBy t k) (upd y k v) (fun i => if i = k then true else fil i) (len + 1) := by
  unfold engOut engL engCs
  rw [ress_app, ress_app, res_form h1 h2, res_out hk]
  rfl
theorem res_op : ress (rhoE n y v s pa pb fil len) [opR n k] = [opL k s pa pb] := by
  have e3 : rhoE n y v s pa pb fil len 3 (unitE n) = .bool s := if_pos rfl
  have e4 : rhoE n y v s pa pb fil len 4 (unitE n) = pa := if_pos rfl
  have e5 : rhoE n y v s pa pb fil len 5 (unitE n) = pb := if_pos rfl
  simp only [opR, opL, rawC, nameR, List.cons_append, List.nil_append, ress, res, e3, e4, e5]
theorem do_call (h : EditOk n t k y v s pa pb len) {c : Cx} {m : PM} {w : World} {b g : Nat} {vs : List Value} (hb : m.get b = some (.cells (engL n t y fil len) g false 76)) (hM : MemRel c m w) (hvs : Reps c m w [.ptr b g 0, opL k s pa pb] vs) :
    CallDoes P 8 vs w fun r w' => ∃ c', Ext c m w c' (m.upd b (.cells (engL n (toldBy t k) (upd y k v) (fun i => if i = k then true else fil i) (len + 1)) g false 76)) w' ∧ MemRel c' (m.upd b (.cells (engL n (toldBy t k) (upd y k v) (fun i => if i = k then true else fil i) (len + 1)) g false 76)) w' ∧ Rep c' (m.upd b (.cells (engL n (toldBy t k) (upd y k v) (fun i => if i = k then true else fil i) (len + 1)) g false 76)) w' ansOk r := by
  have S := stiff_ok h.n1 h.n2 h.ht h.hk
  obtain ⟨r0, m0, m1, hr, hre, hm1⟩ := saysM_eq (do_run h.n1 h.n2 h.ht h.hk)
  have hK := rhoE_ok (fil := fil) h
  have e1 := res_engIn (y := y) (v := v) (s := s) (pa := pa) (pb := pb) (fil := fil) (len := len) (t := t) h.n1 h.n2
  have e2 := res_engOut (y := y) (v := v) (s := s) (pa := pa) (pb := pb) (fil := fil) (len := len) (t := t) h.n1 h.n2 h.hk
  have := liftM (okED h.n1 h.n2 h.ht h.hk) (KP.pl _ hK) hK hr hre hm1 S.op rfl S.engI S.engO (b := b) (g := g) (m := m) (w := w) (c := c) (vs := vs) (by rw [e1]; exact hb) hM (by rw [res_op]; exact hvs)
  rw [e2] at this
  exact this
theorem doc_call (h1 : 2 ≤ n) (h2 : n ≤ 8) (h3 : t < 2) (hy : ∀ i, i < n → Bd 2 (y i)) (hlen : len ≤ 12) {c : Cx} {m : PM} {w : World} {b g : Nat} {vs : List Value} (hb : m.get b = some (.cells (engL n t y fil len) g false 76)) (hM : MemRel c m w) (hvs : Reps c m w [.ptr b g 0] vs) :
    CallDoes P 9 vs w fun r w' => ∃ c', Ext c m w c' (m.upd b (.cells (engL n t y fil len) g false 76)) w' ∧ MemRel c' (m.upd b (.cells (engL n t y fil len) g false 76)) w' ∧ Rep c' (m.upd b (.cells (engL n t y fil len) g false 76)) w' (.agg (docL n t y fil)) r := by
  have hE : EditOk n t 0 y 0 false .nils (.vsl [.int .u32 1] 1 none) len := ⟨h1, h2, h3, by omega, hy, ⟨by decide +kernel, by decide +kernel⟩, (by have e := (canR_p ((0 : Int) : Rat)).c; rw [← conR_eq rfl] at e; exact e), hlen⟩
  have S := stiff_ok h1 h2 h3 hE.hk
  obtain ⟨r0, m0, m1, hr, hre, hm1⟩ := saysM_eq (doc_run h1 h2 h3)
  have hK := rhoE_ok (fil := fil) hE
  have e1 := res_engIn (y := y) (v := 0) (s := false) (pa := .nils) (pb := .vsl [.int .u32 1] 1 none) (fil := fil) (len := len) (t := t) h1 h2
  have e2 := res_in (n := n) (t := t) (y := y) (v := 0) (s := false) (pa := .nils) (pb := .vsl [.int .u32 1] 1 none) (fil := fil) (len := len)
  have := liftM okE1 (KP.pl _ hK) hK.k hr hre hm1 rfl S.doc S.engI S.engI (b := b) (g := g) (m := m) (w := w) (c := c) (vs := vs) (l := []) (by rw [e1]; exact hb) hM hvs
  rw [e1] at this
  simp only [res, e2] at this
  exact this
end
end Go.Ab.T
