/- Contracts hold; runs that are remembered. -/
import Derived.Test.YtkidolggnmomcaaGreatDoorCc
import Derived.Test.YtkidolggnmomcaaGreatDoorBc
import Derived.Test.YtkidolggnmomcaaGreatDoorAe
set_option linter.unusedVariables false
set_option linter.unusedSimpArgs false
/- The interpreter with contracts for numbers, and with runs remembered, is told the truth. -/
open Go Go.Ab
namespace Go.Ab.T
set_option maxRecDepth 100000

theorem con_print : ConOk P K1 111 cPrint := by
  rintro l r hfl hg c m w vs ⟨xs, hK⟩ hM hr
  match l, hg with
  | [a], hg =>
    simp only [cPrint] at hg
    split at hg
    · rename_i e he
      cases hg
      have h1 := numOf_sound he hK
      obtain ⟨s, h2, h3⟩ := dec_Print (RatC.ww h1) (h1.2.le (by decide))
      refine by_ev okE (l := [a]) h3 (fun c' m' w' v hρ hv => ?_) rfl hM hr
      cases hv
      exact .anyS _ _ (Nat.le_trans h2 (by decide))
    · cases hg
  | [], hg => cases hg
  | _ :: _ :: _, hg => cases hg
theorem rat_ok (f : Nat) (g : List PV → Option PV) (h : ratExt ratNo f = some g) : ConOk P K1 f g := by
  unfold ratExt at h
  have step : ∀ {k : Nat} {a : List PV → Option PV} {b : Option (List PV → Option PV)}, (bif Nat.beq f k then some a else b) = some g → ConOk P K1 k a → (b = some g → ConOk P K1 f g) → ConOk P K1 f g := by
    intro k a b h1 h2 h3
    cases hb : Nat.beq f k with
    | true =>
      rw [hb] at h1
      cases h1
      cases beq_t hb
      exact h2
    | false =>
      rw [hb] at h1
      exact h3 h1
  refine step h con_norm fun h => step h con_neg fun h => step h con_add fun h => step h con_mul fun h => step h con_div fun h => step h con_zero fun h => step h con_is fun h => step h con_large fun h => step h con_print fun h => step h con_yes fun h => ?_
  cases h
theorem okE1 : EnvOk P K1 E1 := withExt_ok (EnvOk.mono okE fun _ _ => trivial) rat_ok

mutual
theorem eqF_eq : ∀ {x y : PV}, eqF x y = true → x = y
  | .agg l, y, h => by
    cases y <;> simp only [eqF] at h <;> first | (cases h; done) | skip
    rw [eqFs_eq h]
  | .tup l, y, h => by
    cases y <;> simp only [eqF] at h <;> first | (cases h; done) | skip
    rw [eqFs_eq h]
  | .int .., _, h => eqPV_eq h
  | .bool _, _, h => eqPV_eq h
  | .str _, _, h => eqPV_eq h
  | .anyS _, _, h => eqPV_eq h
  | .sym .., _, h => eqPV_eq h
  | .nilp, _, h => eqPV_eq h
  | .ptr .., _, h => eqPV_eq h
  | .vptr _, _, h => eqPV_eq h
  | .nils, _, h => eqPV_eq h
  | .vsl .., _, h => eqPV_eq h
  | .msl .., _, h => eqPV_eq h
  | .nilm, _, h => eqPV_eq h
  | .map _, _, h => eqPV_eq h
  | .clo .., _, h => eqPV_eq h
  | .nilf, _, h => eqPV_eq h
  | .nili, _, h => eqPV_eq h
  | .ifc .., _, h => eqPV_eq h
theorem eqFs_eq : ∀ {x y : List PV}, eqFs x y = true → x = y
  | [], y, h => by
    cases y with
    | nil => rfl
    | cons => cases h
  | x :: xs, y, h => by
    cases y with
    | nil => cases h
    | cons y ys =>
      obtain ⟨h1, h2⟩ := and_tt (h : (eqF x y && eqFs xs ys) = true)
      rw [eqF_eq h1, eqFs_eq h2]
end
theorem says_eq {r : Option (PV × PM)} {x : PV} (h : says r x = true) : ∃ m, r = some (x, m) := by
  unfold says at h
  split at h
  · rename_i y m
    exact ⟨m, by rw [eqF_eq h]⟩
  · cases h

/-- a run that is remembered -/
theorem memo_ok {E : Env} {K : (Nat → List Int → PV) → Prop} (hok : EnvOk P K E) (hpl : ∀ ρ, K ρ → PlainR ρ) {N n f : Nat} {args : List PV} {r : PV} (hrun : says (evCall E N n f args .empty) r = true) (ha : stiffs args = true) (hr : stiff r = true) : ConOk P K f (memo args r) := by
  intro l r' _ hg c m w vs hK hM hvs
  obtain ⟨h1, h2⟩ := bif_some hg
  cases h2
  cases eqFs_eq h1
  obtain ⟨m1, h3⟩ := says_eq hrun
  have hp := hpl _ hK
  refine (lift hok hp hK h3 ha hr hM (hvs.res (hflat c))).mono ?_
  rintro v w' ⟨c', e1, e2, e3⟩
  exact ⟨c', e1, e2, Rep.unres (c := c') (c' := c') (w := w') hp e1.rho (fun B hB => ⟨hB, rfl⟩) r hr e3 (nosym_res hp r hr).1⟩
theorem K1.pl (ρ : Nat → List Int → PV) (h : K1 ρ) : PlainR ρ := by
  obtain ⟨xs, hK⟩ := h
  exact hK.pl
theorem okE2 {n : Nat} (h1 : runStatic n = true) (h2 : runSides n = true) (s1 : stiffs [formR n] = true) (s2 : stiffs (sidesIn n) = true) (s3 : stiff (.tup [conOf n, .int .i64 0]) = true) : EnvOk P K1 (E2 n) := by
  refine withExt_ok okE1 fun f g hg => ?_
  unfold memos at hg
  cases hb : Nat.beq f 25 with
  | true =>
    rw [hb] at hg
    cases hg
    cases beq_t hb
    exact memo_ok okE1 K1.pl h1 s1 rfl
  | false =>
    rw [hb] at hg
    obtain ⟨h3, h4⟩ := bif_some hg
    cases h4
    cases beq_t h3
    exact memo_ok okE1 K1.pl h2 s2 s3
theorem okE3 {n t : Nat} (h : EnvOk P K1 (E2 n)) (h1 : runIs n t = true) (s1 : stiffs [formR n, .agg (docIn n t)] = true) : EnvOk P K1 (E3 n t) := by
  refine withExt_ok h fun f g hg => ?_
  obtain ⟨h3, h4⟩ := bif_some hg
  cases h4
  cases beq_t h3
  exact memo_ok h K1.pl h1 s1 rfl
end Go.Ab.T
/- Runs of the engine: an edit, and its document. -/
open Go Go.Ab
namespace Go.Ab.T
set_option maxRecDepth 100000

def repA : Nat → List PV
  | 0 => []
  | n + 1 => .anyS 10000000 :: repA n
/-- so many documents ahead, as texts -/
def pastR (n : Nat) : PV := match n with
  | 0 => .nils
  | k + 1 => .vsl (repA (Nat.succ k)) (Nat.succ k) none
def pastSym (i : Nat) : PV := .sym 8 [Int.ofNat i]
/-- an engine -/
def engCs (n : Nat) (d : List PV) (past : PV) : List PV := formCs n ++ (d ++ [past, .nils, .int .i64 0, .bool false])
def engIn (n t : Nat) : List PV := engCs n (docIn n t) (pastSym 0)
def engOut (n t k : Nat) : List PV := engCs n (docOut n t k) (pastSym 1)
def opR (n k : Nat) : PV := .agg ([.int .i64 1, nameR k] ++ (rawC (unitE n) ++ [.bool false]))
def ansOk : PV := .agg [.int .i64 0, .nils, .str []]
def cPush (l : List PV) : Option PV := match l with
  | [a, b] => bif eqF a (.agg [pastSym 0, .nils]) then (match b with
    | .anyS k => bif Nat.ble k 10000000 then some (.agg [pastSym 1, .nils]) else none
    | _ => none) else none
  | _ => none
noncomputable def doX (n t k f : Nat) : Option (List PV → Option PV) :=
  bif Nat.beq f 66 then some (memo [.agg (docIn n t)] (.anyS 10000000)) else bif Nat.beq f 65 then some cPush
  else bif Nat.beq f 32 then some (memo [formR n, .agg (docIn n t), nameR k, .agg (rawC (unitE n))] (okErr (.agg (docOut n t k)))) else none
noncomputable def ED (n t k : Nat) : Env := withExt E1 (doX n t k)
def holds0 (m : PM) (cs : List PV) (et : Nat) : Bool := match m.get 0 with
  | some (.cells cs' g fr et') => Nat.beq g 0 && (!fr && (Nat.beq et' et && eqFs cs' cs))
  | _ => false
def saysM (r : Option (PV × PM)) (x : PV) (cs : List PV) (et : Nat) : Bool := match r with
  | some (y, m) => match reify 12 m y with
    | some (z, m') => eqF z x && holds0 m' cs et
    | none => false
  | none => false
noncomputable def runDo (n t k : Nat) : Bool := saysM (evCall (ED n t k) 4000 400 8 [.ptr 0 0 0, opR n k] (mem1 (engIn n t) 76)) ansOk (engOut n t k) 76
noncomputable def runDoc (n t : Nat) : Bool := saysM (evCall E1 4000 400 9 [.ptr 0 0 0] (mem1 (engIn n t) 76)) (.agg (docIn n t)) (engIn n t) 76
noncomputable def runPush (n : Nat) : Bool := says (evCall E1 400 50 65 [.agg [pastR n, .nils], .anyS 10000000] .empty) (.agg [pastR (Nat.succ n), .nils])
end Go.Ab.T
