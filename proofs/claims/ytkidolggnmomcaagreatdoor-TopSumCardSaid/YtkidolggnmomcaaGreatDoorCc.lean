/- The interpreter is told the truth; contracts of numbers. -/
import Derived.Test.YtkidolggnmomcaaGreatDoorCb
import Derived.Lib.Bytealg
import Derived.Eval
import Derived.Test.YtkidolggnmomcaaGreatDoorChecked
import Derived.Test.YtkidolggnmomcaaGreatDoorAe
set_option linter.unusedVariables false
set_option linter.unusedSimpArgs false
/- What the interpreter is told of this program is so: deferred functions, functions without a body. -/
open Go Go.Ab
namespace Go.Ab.T
set_option maxRecDepth 100000
noncomputable abbrev P : Program := Go.Proofs.Tryz.prog

theorem findB_eq (c : UInt8) : ∀ (s : List UInt8) (i : Nat), findB c.toNat s i = if Lib.indexByte s c = -1 then -1 else (i : Int) + Lib.indexByte s c
  | [], i => rfl
  | b :: bs, i => by
    simp only [findB, Lib.indexByte]
    by_cases h : b = c
    · subst h
      simp
    · have h1 : Nat.beq b.toNat c.toNat = false := by
        cases hb : Nat.beq b.toNat c.toNat with
        | false => rfl
        | true => exact absurd (UInt8.toNat_inj.1 (Nat.eq_of_beq_eq_true hb)) h
      have h2 : (b == c) = false := by simpa using h
      simp only [h1, h2, cond_false, Bool.false_eq_true, if_false, findB_eq c bs (Nat.succ i)]
      by_cases h3 : Lib.indexByte bs c = -1
      · simp [h3]
      · have h4 : (Lib.indexByte bs c == -1) = false := by simpa using h3
        have h5 := Lib.indexByte_ge bs c
        simp only [h3, h4, Bool.false_eq_true, if_false]
        have h6 : ¬ (Lib.indexByte bs c + 1 = -1) := by omega
        simp only [h6, if_false]
        omega
theorem cntB_eq (c : UInt8) : ∀ (s : List UInt8), cntB c.toNat s = Lib.countByte s c
  | [] => rfl
  | b :: bs => by
    have ih := cntB_eq c bs
    unfold Lib.countByte at ih ⊢
    simp only [cntB, List.count_cons]
    by_cases h : b = c
    · subst h
      simp [ih]
    · have h1 : Nat.beq b.toNat c.toNat = false := by
        cases hb : Nat.beq b.toNat c.toNat with
        | false => rfl
        | true => exact absurd (UInt8.toNat_inj.1 (Nat.eq_of_beq_eq_true hb)) h
      have h2 : (b == c) = false := by simpa using h
      rw [h1, h2]
      simp [ih]

theorem f352 : P.funcs[352]? = some Go.Proofs.Tryz.f352 := (fn_ok 352 _ rfl).1
theorem f273 : P.funcs[273]? = some Go.Proofs.Tryz.f273 := (fn_ok 273 _ rfl).1
theorem f266 : P.funcs[266]? = some Go.Proofs.Tryz.f266 := (fn_ok 266 _ rfl).1
theorem f17 : P.funcs[17]? = some Go.Proofs.Tryz.f17 := (fn_ok 17 _ rfl).1
theorem f356 : P.funcs[356]? = some Go.Proofs.Tryz.f356 := (fn_ok 356 _ rfl).1

theorem same_ok (v : Value) (w : World) : (callFunc 266 #[v]).run P w = .ok (.value v) w := by
  rw [run_callFunc_extern f266 (by kernel_rfl) (by kernel_rfl) (by kernel_rfl) (e := Extern.AbiNoEscape.same) (by kernel_rfl)]
  rfl
theorem index_ok (s : ByteArray) (c : Int) (w : World) : (callFunc 352 #[.string s, .int .u8 c]).run P w = .ok (.value (.int .i64 (Lib.indexByte s.data.toList c.toNat.toUInt8))) w := by
  rw [run_callFunc_extern f352 (by kernel_rfl) (by kernel_rfl) (by kernel_rfl) (e := Extern.BytealgIndexByte.indexByte) (by kernel_rfl), Lib.run_indexByteString]
  rfl
theorem count_ok (s : ByteArray) (c : Int) (w : World) : (callFunc 273 #[.string s, .int .u8 c]).run P w = .ok (.value (.int .i64 (Lib.countByte s.data.toList c.toNat.toUInt8))) w := by
  rw [run_callFunc_extern f273 (by kernel_rfl) (by kernel_rfl) (by kernel_rfl) (e := Extern.BytealgCount.count) (by kernel_rfl), Lib.run_countString]
  rfl
theorem u8_of {c : Nat} (h : c < 256) : ((c : Int).toNat.toUInt8).toNat = c := by
  simp only [Int.toNat_natCast, Nat.toUInt8_eq, UInt8.toNat_ofNat']
  omega
theorem ext_ok (f : Nat) (g : List PV → Option PV) (h : E.ext f = some g) (l : List PV) (r : PV) (hg : g l = some r) (c : Cx) (m : PM) (w : World) (vs : List Value) (hM : MemRel c m w) (hr : Reps c m w l vs) :
    CallDoes P f vs w fun v w' => ∃ c', Ext c m w c' m w' ∧ MemRel c' m w' ∧ Rep c' m w' r v := by
  have h' : ext f = some g := h
  unfold ext at h'
  cases h1 : Nat.beq f 352 with
  | true =>
    rw [h1] at h'
    cases h'
    cases beq_t h1
    simp only at hg
    split at hg
    · rename_i s c0
      obtain ⟨hc, h2⟩ := bif_some hg
      cases h2
      have hc' : c0 < 256 := Nat.lt_of_succ_le (Nat.le_of_ble_eq_true hc)
      cases hr with
      | cons _ _ _ _ a1 hr =>
        cases hr with
        | cons _ _ _ _ a2 hr =>
          cases hr; cases a1; cases a2
          refine .inr ⟨_, w, index_ok _ _ w, c, .refl, hM, ?_⟩
          have := findB_eq ((c0 : Int).toNat.toUInt8) s 0
          rw [u8_of hc'] at this
          rw [this]
          have e : (if Lib.indexByte s (c0 : Int).toNat.toUInt8 = -1 then (-1 : Int) else ((0 : Nat) : Int) + Lib.indexByte s (c0 : Int).toNat.toUInt8) = Lib.indexByte s (c0 : Int).toNat.toUInt8 := by
            split
            · rename_i e; exact e.symm
            · simp
          rw [e]
          exact .int _ _
    · cases hg
  | false =>
    rw [h1] at h'
    simp only [cond_false] at h'
    obtain ⟨h3, h4⟩ := bif_some h'
    cases h4
    cases beq_t h3
    simp only at hg
    split at hg
    · rename_i s c0
      obtain ⟨hc, h2⟩ := bif_some hg
      cases h2
      have hc' : c0 < 256 := Nat.lt_of_succ_le (Nat.le_of_ble_eq_true hc)
      cases hr with
      | cons _ _ _ _ a1 hr =>
        cases hr with
        | cons _ _ _ _ a2 hr =>
          cases hr; cases a1; cases a2
          refine .inr ⟨_, w, count_ok _ _ w, c, .refl, hM, ?_⟩
          have := cntB_eq ((c0 : Int).toNat.toUInt8) s
          rw [u8_of hc'] at this
          rw [this]
          exact .int _ _
    · cases hg

/-! ### deferred functions where nobody panics -/
theorem results_nil {fn : Func} (h : fn.results = #[]) (t : Array Value) (w : World) : (results fn t).run P w = .ok (.tuple #[]) w := by
  simp [results, h]
theorem guard_body {fn : Func} {f : Nat} {a b : Nat} {t1 t2 : Nat} {rest : Code} {ps1 ps2 ps3 ps4 : String} {af1 af2 af3 : Array Edge} (hf : P.funcs[f]? = some fn) (hr : fn.results = #[])
    (hb : fn.body = some (.seq (.region 0 #[{ dst := some t1, op := .call { callee := .builtin .recover, args := #[], argTypes := #[] }, type := 20, pos := ps1, after := #[], guard := none }, { dst := some a, op := .assign (.tmp t1), type := 20, pos := ps2, after := af1, guard := none }] false)
      (.seq (.region 1 #[{ dst := some t2, op := .move (.tmp a), type := 20, pos := ps3, after := af2, guard := none }, { dst := some b, op := .binOp .neq 20 (.tmp t2) (.const .nilIface) 20, type := 4, pos := ps4, after := af3, guard := none }] false) (.cond (.tmp b) rest .skip))))
    (h1 : t1 < fn.ntmps) (h2 : a < fn.ntmps) (h3 : t2 < fn.ntmps) (h4 : b < fn.ntmps) (vs : Array Value) (w : World) :
    CallsD P f vs .returning w fun e u' w' => (∃ v, e = .returned v) ∧ u' = .returning ∧ Grown w w' := by
  refine callsD_of_wpS hf hb fun c₀ cs hu => ?_
  have hsz : fn.ntmps ≤ (vs ++ Array.replicate (fn.ntmps - vs.size) undef).size := by simp; omega
  generalize vs ++ Array.replicate (fn.ntmps - vs.size) undef = T0 at hsz ⊢
  apply wpS_seq
  apply wpS_region
  have g1 : t1 < T0.size := by omega
  have g2 : a < T0.size := by omega
  have g3 : t2 < T0.size := by omega
  have g4 : b < T0.size := by omega
  simp [wpOpsS, go_sem, recoverD, hu, Exit.thenS, g1]
  apply wpS_seq
  apply wpS_region
  simp [wpOpsS, go_sem, Exit.thenS, g2, g3]
  refine wpS_cond (t := false) (by simp [Act.eval, g4]) ?_
  simp only [Bool.false_eq_true, if_false]
  refine wpS_of_wp (wp_skip ?_)
  exact ⟨rfl, .returning, by cases c₀; simp_all, _, results_nil hr _ w, ⟨_, rfl⟩, rfl, .refl⟩
theorem guard_ok (f : Nat) (h : E.guard f = true) (vs : Array Value) (w : World) : (callFunc f vs).run P w = .ok (.enter f vs) w ∧ CallsD P f vs .returning w fun e u' w' => (∃ v, e = .returned v) ∧ u' = .returning ∧ Grown w w' := by
  have h' : (Nat.beq f 17 || Nat.beq f 356) = true := h
  cases h1 : Nat.beq f 17 with
  | true =>
    cases beq_t h1
    exact ⟨run_callFunc f17 (by kernel_rfl) (cd := _) rfl, guard_body f17 rfl rfl (by decide) (by decide) (by decide) (by decide) vs w⟩
  | false =>
    rw [h1] at h'
    cases beq_t h'
    exact ⟨run_callFunc f356 (by kernel_rfl) (cd := _) rfl, guard_body f356 rfl rfl (by decide) (by decide) (by decide) (by decide) vs w⟩

theorem fnB_name {fn : Func} (h : fnB fn = true) : (fn.name == "runtime.NumGoroutine") = false := by
  have := (and_tt' h).1
  simpa using this
theorem fnB_reg {fn : Func} (h : fnB fn = true) (cd : Code) (hb : fn.body = some cd) : codeReg cd = true := by
  have := (and_tt' h).2
  rw [hb] at this
  exact this
/-- the interpreter is told the truth -/
theorem okE : EnvOk P (fun _ => True) E where
  ty := ty_ok
  fn := fun f fn h => ⟨(fn_ok f fn h).1, fnB_name (fn_ok f fn h).2⟩
  reg := fun f fn cd h hb => fnB_reg (fn_ok f fn h).2 cd hb
  guard := guard_ok
  ext := fun f g h l r _ hg c m w vs _ hM hr => ext_ok f g h l r hg c m w vs hM hr
  extM := fun f g h => by cases h
  same := fun f h _ v w => by
    have h' : Nat.beq f 266 = true := h
    cases beq_t h'
    exact same_ok v w
  mixed := Checked.mixed Go.Proofs.Tryz.checked
end Go.Ab.T
/- The contracts of the numbers hold. -/
open Go Go.Ab
namespace Go.Ab.T
set_option maxRecDepth 100000

def ratNo : RatNo := { norm := 58, neg := 192, add := 291, mul := 292, div := 302, zero := 183, is := 128, large := 129, print := 111, yes := 113 }
/-- what a contract must keep to -/
def ConOk (P : Program) (K : (Nat → List Int → PV) → Prop) (f : Nat) (g : List PV → Option PV) : Prop :=
  ∀ l r, flat1s l = true → g l = some r → ∀ (c : Cx) (m : PM) (w : World) (vs : List Value), K c.ρ → MemRel c m w → Reps c m w l vs → CallDoes P f vs w fun v w' => ∃ c', Ext c m w c' m w' ∧ MemRel c' m w' ∧ Rep c' m w' r v
/-- more contracts -/
def withExt (E : Env) (X : Nat → Option (List PV → Option PV)) : Env := { E with ext := fun f => match X f with
  | some g => some g
  | none => E.ext f }
theorem withExt_ok {P : Program} {K : (Nat → List Int → PV) → Prop} {E : Env} {X : Nat → Option (List PV → Option PV)} (h : EnvOk P K E) (hX : ∀ f g, X f = some g → ConOk P K f g) : EnvOk P K (withExt E X) where
  ty := h.ty
  fn := h.fn
  reg := h.reg
  guard := h.guard
  extM := h.extM
  same := h.same
  mixed := h.mixed
  ext := fun f g hg l r hl hr c m w vs hk hM hvs => by
    simp only [withExt] at hg
    split at hg
    · rename_i g' hx
      cases hg
      exact hX f _ hx l r hl hr c m w vs hk hM hvs
    · exact h.ext f g hg l r hl hr c m w vs hk hM hvs
theorem EnvOk.mono {P : Program} {K K' : (Nat → List Int → PV) → Prop} {E : Env} (h : EnvOk P K E) (hk : ∀ ρ, K' ρ → K ρ) : EnvOk P K' E where
  ty := h.ty
  fn := h.fn
  reg := h.reg
  guard := h.guard
  extM := fun f g hg l m r m' hr c w vs hK => h.extM f g hg l m r m' hr c w vs (hk _ hK)
  same := h.same
  mixed := h.mixed
  ext := fun f g hg l r hl hr c m w vs hK => h.ext f g hg l r hl hr c m w vs (hk _ hK)

section
variable {xs : List Rat} {ρ : Nat → List Int → PV}
theorem by_run {f N n : Nat} {l : List PV} {q r : PV} (hev : ∀ m, evCall E N n f (ress ρ l) m = some (q, m)) (hq : ∀ (c : Cx) (m : PM) (w : World) (v : Value), c.ρ = ρ → Rep c m w q v → Rep c m w r v)
    {c : Cx} {m : PM} {w : World} {vs : List Value} (hρ : c.ρ = ρ) (hM : MemRel c m w) (hr : Reps c m w l vs) : CallDoes P f vs w fun v w' => ∃ c', Ext c m w c' m w' ∧ MemRel c' m w' ∧ Rep c' m w' r v := by
  subst hρ
  refine (evCall_ok okE N n _ _ _ _ _ (hev m) c w vs trivial hM (hr.res (hflat c))).mono ?_
  rintro v w' ⟨c', h1, h2, h3⟩
  exact ⟨c', h1, h2, hq c' m w' v h1.rho h3⟩
theorem con_norm : ConOk P K1 58 cNorm := by
  rintro l r _ hg c m w vs ⟨xs, hK⟩ hM hr
  match l, hg with
  | [a], hg =>
    simp only [cNorm] at hg
    split at hg
    · rename_i e he
      obtain ⟨q, h1, h2⟩ := rat_Norm (RatC.ww (numOf_sound he hK))
      exact by_ev okE (l := [a]) h2 (fun c' m' w' v hρ hv => mkR_rep hK hρ hg h1 hv) rfl hM hr
    · cases hg
  | [], hg => cases hg
  | _ :: _ :: _, hg => cases hg
theorem con_neg : ConOk P K1 192 cNeg := by
  rintro l r _ hg c m w vs ⟨xs, hK⟩ hM hr
  match l, hg with
  | [a], hg =>
    simp only [cNeg] at hg
    split at hg
    · rename_i e he
      obtain ⟨q, h1, h2⟩ := rat_Neg (RatC.ww (numOf_sound he hK))
      have h3 : RatP (evr xs (scaleE (-1) e)) q := by
        rw [evr_scale, show (((-1 : Int) : Int) : Rat) * evr xs e = -(evr xs e) by simp [Rat.neg_mul, Rat.one_mul]]
        exact h1
      exact by_ev okE (l := [a]) h2 (fun c' m' w' v hρ hv => mkR_rep hK hρ hg h3 hv) rfl hM hr
    · cases hg
  | [], hg => cases hg
  | _ :: _ :: _, hg => cases hg
theorem Bd.le {L M : Nat} {r : Rat} (h : Bd L r) (hl : L ≤ M) : Bd M r := ⟨Nat.le_trans h.1 hl, Nat.le_trans h.2 hl⟩
theorem con_add : ConOk P K1 291 cAdd := by
  rintro l r _ hg c m w vs ⟨xs, hK⟩ hM hr
  match l, hg with
  | [a, b], hg =>
    simp only [cAdd] at hg
    split at hg
    · rename_i e he
      split at hg
      · rename_i e' he'
        have n1 := numOf_sound he hK
        have n2 := numOf_sound he' hK
        obtain ⟨q, h1, h2⟩ := rat_Add (RatC.ww n1) (RatC.ww n2) (n1.2.le (by decide)) (n2.2.le (by decide))
        have h3 : RatP (evr xs (addE e e')) q := by rw [evr_add]; exact h1
        exact by_ev okE (l := [a, b]) h2 (fun c' m' w' v hρ hv => mkR_rep hK hρ hg h3 hv) rfl hM hr
      · cases hg
    · cases hg
  | [], hg => cases hg
  | [_], hg => cases hg
  | _ :: _ :: _ :: _, hg => cases hg
theorem mulE_eq {e e' x : List Int} (h : mulE e e' = some x) : evr xs x = evr xs e * evr xs e' := by
  unfold mulE at h
  split at h
  · cases h
    rw [evr_scale, evr_one]
  · split at h
    · cases h
      rw [evr_scale, evr_one, Rat.mul_comm]
    · cases h
theorem con_mul : ConOk P K1 292 cMul := by
  rintro l r _ hg c m w vs ⟨xs, hK⟩ hM hr
  match l, hg with
  | [a, b], hg =>
    simp only [cMul] at hg
    split at hg
    · rename_i e he
      split at hg
      · rename_i e' he'
        split at hg
        · rename_i x hx
          have n1 := numOf_sound he hK
          have n2 := numOf_sound he' hK
          obtain ⟨q, h1, h2⟩ := rat_Mul (RatC.ww n1) (RatC.ww n2) (n1.2.le (by decide)) (n2.2.le (by decide))
          have h3 : RatP (evr xs x) q := by rw [mulE_eq hx]; exact h1
          exact by_ev okE (l := [a, b]) h2 (fun c' m' w' v hρ hv => mkR_rep hK hρ hg h3 hv) rfl hM hr
        · cases hg
      · cases hg
    · cases hg
  | [], hg => cases hg
  | [_], hg => cases hg
  | _ :: _ :: _ :: _, hg => cases hg
theorem tup2_rep {c : Cx} {m : PM} {w : World} {p x : PV} {b : Bool} {v : Value} (h : ∀ u, Rep c m w p u → Rep c m w x u) (hv : Rep c m w (.tup [p, .bool b]) v) : Rep c m w (.tup [x, .bool b]) v := by
  cases hv with
  | tup _ vs hs =>
    cases hs with
    | cons _ v1 _ vs1 a1 hs => exact .tup _ _ (.cons _ _ _ _ (h _ a1) hs)
theorem con_div : ConOk P K1 302 cDiv := by
  rintro l r _ hg c m w vs ⟨xs, hK⟩ hM hr
  match l, hg with
  | [a, b], hg =>
    simp only [cDiv] at hg
    split at hg
    · rename_i e he
      split at hg
      · rename_i he'
        split at hg
        · rename_i x hx
          cases hg
          have n1 := numOf_sound he hK
          have n2 := numOf_sound he' hK
          rw [evr_one] at n2
          obtain ⟨q, h1, h2⟩ := rat_Div (RatC.ww n1) (RatC.ww n2) (n1.2.le (by decide)) (n2.2.le (by decide)) (by decide)
          have h3 : RatP (evr xs e) q := by
            have e1 : evr xs e * (((Int.ofNat 1 : Int) : Rat))⁻¹ = evr xs e := by
              rw [show (((Int.ofNat 1 : Int) : Rat))⁻¹ = 1 from by decide +kernel, Rat.mul_one]
            rwa [e1] at h1
          exact by_ev okE (l := [a, b]) h2 (fun c' m' w' v hρ hv => tup2_rep (fun u hu => mkR_rep hK hρ hx h3 hu) hv) rfl hM hr
        · cases hg
      · rename_i he'
        split at hg
        · rename_i x hx
          cases hg
          have n1 := numOf_sound he hK
          have n2 := numOf_sound he' hK
          rw [evr_one] at n2
          obtain ⟨q, h1, h2⟩ := rat_Div (RatC.ww n1) (RatC.ww n2) (n1.2.le (by decide)) (n2.2.le (by decide)) (by decide)
          have h3 : RatP (evr xs (scaleE (-1) e)) q := by
            have e1 : evr xs e * (((Int.negSucc 0 : Int) : Rat))⁻¹ = evr xs (scaleE (-1) e) := by
              rw [evr_scale, show (((Int.negSucc 0 : Int) : Rat))⁻¹ = ((-1 : Int) : Rat) from by decide +kernel, Rat.mul_comm]
            rwa [e1] at h1
          exact by_ev okE (l := [a, b]) h2 (fun c' m' w' v hρ hv => tup2_rep (fun u hu => mkR_rep hK hρ hx h3 hu) hv) rfl hM hr
        · cases hg
      · cases hg
    · cases hg
  | [], hg => cases hg
  | [_], hg => cases hg
  | _ :: _ :: _ :: _, hg => cases hg
theorem int_zero {c : Int} : ((c : Rat) = 0) ↔ c = 0 := by
  constructor
  · intro h
    have := congrArg Rat.num h
    simpa using this
  · rintro rfl; rfl
theorem con_zero : ConOk P K1 183 cZero := by
  rintro l r _ hg c m w vs ⟨xs, hK⟩ hM hr
  match l, hg with
  | [a], hg =>
    simp only [cZero] at hg
    split at hg
    · rename_i x he
      cases hg
      have h2 := fun m => rat_Zero (RatC.ww (numOf_sound he hK)) m
      refine by_ev okE (l := [a]) h2 (fun c' m' w' v hρ hv => ?_) rfl hM hr
      rw [evr_one] at hv
      have e : decide ((x : Rat) = 0) = isZ x := by
        cases hz : isZ x with
        | true => exact decide_eq_true (int_zero.2 (isZ_eq hz))
        | false => exact decide_eq_false fun h => isZ_ne hz (int_zero.1 h)
      rwa [e] at hv
    · rename_i e _ he
      obtain ⟨hz, h3⟩ := bif_some hg
      cases h3
      have h2 := fun m => rat_Zero (RatC.ww (numOf_sound he hK)) m
      refine by_ev okE (l := [a]) h2 (fun c' m' w' v hρ hv => ?_) rfl hM hr
      have e : evr xs e = 0 := by
        cases e with
        | nil => rfl
        | cons x e =>
          obtain ⟨h4, h5⟩ := and_tt hz
          rw [evr_allZ h5, isZ_eq h4]; rfl
      rw [decide_eq_true e] at hv
      exact hv
    · cases hg
  | [], hg => cases hg
  | _ :: _ :: _, hg => cases hg
theorem con_is : ConOk P K1 128 cIs := by
  rintro l r _ hg c m w vs ⟨xs, hK⟩ hM hr
  match l, hg with
  | [a], hg =>
    simp only [cIs] at hg
    split at hg
    · rename_i e he
      cases hg
      have h1 := numOf_sound he hK
      exact by_ev okE (l := [a]) (fun m => rat_Is h1.1 (h1.2.le (by decide)) m) (fun c' m' w' v hρ hv => hv) rfl hM hr
    · cases hg
  | [], hg => cases hg
  | _ :: _ :: _, hg => cases hg
theorem con_large : ConOk P K1 129 cLarge := by
  rintro l r _ hg c m w vs ⟨xs, hK⟩ hM hr
  match l, hg with
  | [a], hg =>
    simp only [cLarge] at hg
    split at hg
    · rename_i e he
      obtain ⟨hf, h3⟩ := bif_some hg
      cases h3
      have h1 := few_bd hK.bd hf
      refine by_ev okE (l := [a]) (fun m => rat_Large (RatC.ww (numOf_sound he hK)) m) (fun c' m' w' v hρ hv => ?_) rfl hM hr
      rw [decide_eq_false (by have := h1.1; have := h1.2; omega)] at hv
      exact hv
    · cases hg
  | [], hg => cases hg
  | _ :: _ :: _, hg => cases hg
theorem yes_run (b : Bool) (m : PM) : evCall E 5 5 113 [.bool b] m = some (.str [if b then 49 else 48], m) := by
  cases b
  · kernel_rfl
  · kernel_rfl
theorem con_yes : ConOk P K1 113 cYes := by
  rintro l r hfl hg c m w vs ⟨xs, hK⟩ hM hr
  have fin : ∀ (b : Bool), ∀ (c : Cx) (m : PM) (w : World) (v : Value), c.ρ = c.ρ → Rep c m w (.str [if b then 49 else 48]) v → Rep c m w (.anyS 1) v := by
    intro b c m w v _ hv
    cases hv
    exact .anyS _ _ (by cases b <;> decide)
  unfold cYes at hg
  split at hg
  · rename_i b
    cases hg
    exact by_run (l := [.bool b]) (fun m => yes_run b m) (fun c' m' w' v _ hv => fin b c' m' w' v rfl hv) rfl hM hr
  · rename_i e
    cases hg
    obtain ⟨b, hb⟩ := hK.b e
    refine by_run (l := [.sym 6 e]) (q := .str [if b then 49 else 48]) (N := 5) (n := 5) (fun m => ?_) (fun c' m' w' v _ hv => fin b c' m' w' v rfl hv) rfl hM hr
    simp only [ress, res, hb]
    exact yes_run b m
  · cases hg
end
end Go.Ab.T
/- Runs of the program's functions at the statement's forms. -/
open Go Go.Ab
namespace Go.Ab.T
set_option maxRecDepth 100000
noncomputable def E1 : Env := withExt E (ratExt ratNo)
def okStatic : PV := .tup [.int .i64 0, .str []]
def sidesIn (n : Nat) : List PV := [.agg (ruleR n), .agg [.vsl (namesR n) n none, .nils, .nils]]
def memos (n : Nat) (f : Nat) : Option (List PV → Option PV) := bif Nat.beq f 25 then some (memo [formR n] okStatic) else bif Nat.beq f 190 then some (memo (sidesIn n) (.tup [conOf n, .int .i64 0])) else none
noncomputable def E2 (n : Nat) : Env := withExt E1 (memos n)
noncomputable def E3 (n t : Nat) : Env := withExt (E2 n) (fun f => bif Nat.beq f 68 then some (memo [formR n, .agg (docIn n t)] (.bool true)) else none)
/-- what is run: check.Static, elab.sides, doc.New, doc.Is, doc.Edit, draft.Print -/
noncomputable def runStatic (n : Nat) : Bool := says (evCall E1 4000 400 25 [formR n] .empty) okStatic
noncomputable def runSides (n : Nat) : Bool := says (evCall E1 4000 400 190 (sidesIn n) .empty) (.tup [conOf n, .int .i64 0])
noncomputable def runNew (n : Nat) : Bool := says (evCall (E2 n) 4000 400 27 [formR n] .empty) (okErr (.agg (doc0 n)))
noncomputable def runIs (n t : Nat) : Bool := says (evCall (E2 n) 4000 400 68 [formR n, .agg (docIn n t)] .empty) (.bool true)
noncomputable def runEdit (n t k : Nat) : Bool := says (evCall (E3 n t) 4000 400 32 [formR n, .agg (docIn n t), nameR k, .agg (rawC (unitE n))] .empty) (okErr (.agg (docOut n t k)))
noncomputable def runPrint (n t : Nat) : Bool := saysText (evCall E1 4000 400 66 [.agg (docIn n t)] .empty) 10000000
end Go.Ab.T
