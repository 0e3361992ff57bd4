/- A logic on the interpreter; rows of limbs. -/
import Derived.Test.YtkidolggnmomcaaGreatDoorAc
set_option linter.unusedVariables false
set_option linter.unusedSimpArgs false
/- A logic on top of the interpreter: what it answers, whatever the fuel, if there is enough. -/
namespace Go.Ab
section
variable {E : Env}

/-- a call's answer, with fuel enough -/
def Ev (E : Env) (f : Nat) (l : List PV) (m : PM) (q : PV) (m' : PM) : Prop := ∃ k, ∀ N n, k ≤ N → k ≤ n → evCall E N n f l m = some (q, m')
def EvC (E : Env) (cd : Code) (s : St) (x : Ex) (s' : St) : Prop := ∃ k, ∀ N n, k ≤ N → k ≤ n → evCode E (evCall E N n) N cd s = some (x, s')
def EvO (E : Env) (all os : List Oper) (s s' : St) : Prop := ∃ k, ∀ N n, k ≤ N → k ≤ n → evOps E (evCall E N n) all os s = some s'
def EvD (E : Env) (all : List Oper) (i : Nat) (prs : List (Option PV)) (os : List Oper) (s : St) (tr : List Tri) (s' : St) (tr' : List Tri) : Prop := ∃ k, ∀ N n, k ≤ N → k ≤ n → drOps E (evCall E N n) all i prs os s tr = some (s', tr')
def EvL (E : Env) (cd : Code) (s : St) (x : Ex) (s' : St) : Prop := ∃ k, ∀ N n j, k ≤ N → k ≤ n → k ≤ j → loopN (evCode E (evCall E N n) N cd) j s = some (x, s')

structure WC (E : Env) (cd : Code) (s : St) (Q : Ex → St → Prop) : Prop where
  ex : ∃ x s', EvC E cd s x s' ∧ Q x s'
structure WO (E : Env) (all os : List Oper) (s : St) (Q : St → Prop) : Prop where
  ex : ∃ s', EvO E all os s s' ∧ Q s'
structure WD (E : Env) (all : List Oper) (i : Nat) (prs : List (Option PV)) (os : List Oper) (s : St) (tr : List Tri) (Q : St → List Tri → Prop) : Prop where
  ex : ∃ s' tr', EvD E all i prs os s tr s' tr' ∧ Q s' tr'
structure WL (E : Env) (cd : Code) (s : St) (Q : Ex → St → Prop) : Prop where
  ex : ∃ x s', EvL E cd s x s' ∧ Q x s'

theorem WC.mono {cd : Code} {s : St} {Q Q' : Ex → St → Prop} (h : WC E cd s Q) (hq : ∀ x s', Q x s' → Q' x s') : WC E cd s Q' := by
  obtain ⟨x, s', h1, h2⟩ := h
  exact ⟨x, s', h1, hq _ _ h2⟩

theorem WO.mono {all os : List Oper} {s : St} {Q Q' : St → Prop} (h : WO E all os s Q) (hq : ∀ s', Q s' → Q' s') : WO E all os s Q' := by
  obtain ⟨s', h1, h2⟩ := h
  exact ⟨s', h1, hq _ h2⟩
theorem WC_skip {s : St} {Q : Ex → St → Prop} (h : Q .nrm s) : WC E .skip s Q := ⟨_, _, ⟨0, fun _ _ _ _ => rfl⟩, h⟩
theorem WC_exit {i : Nat} {s : St} {Q : Ex → St → Prop} (h : Q (.exit i) s) : WC E (.exit i) s Q := ⟨_, _, ⟨0, fun _ _ _ _ => rfl⟩, h⟩
theorem WC_ret {s : St} {Q : Ex → St → Prop} (h : Q .ret s) : WC E .ret s Q := ⟨_, _, ⟨0, fun _ _ _ _ => rfl⟩, h⟩
/-- one after the other -/
def seqQ (E : Env) (b : Code) (Q : Ex → St → Prop) : Ex → St → Prop
  | .nrm, s => WC E b s Q
  | .ret, s => Q .ret s
  | .exit i, s => Q (.exit i) s
theorem WC_seq {a b : Code} {s : St} {Q : Ex → St → Prop} (h : WC E a s (seqQ E b Q)) : WC E (.seq a b) s Q := by
  obtain ⟨x, s', ⟨k, h1⟩, h2⟩ := h
  cases x with
  | nrm =>
    obtain ⟨y, s2, ⟨k2, h3⟩, h4⟩ := h2
    refine ⟨y, s2, ⟨max k k2, fun N n hN hn => ?_⟩, h4⟩
    simp only [evCode, h1 N n (by omega) (by omega)]
    exact h3 N n (by omega) (by omega)
  | ret => exact ⟨_, _, ⟨k, fun N n hN hn => by simp only [evCode, h1 N n hN hn]⟩, h2⟩
  | exit i => exact ⟨_, _, ⟨k, fun N n hN hn => by simp only [evCode, h1 N n hN hn]⟩, h2⟩
theorem WC_true {c : Operand} {a b : Code} {s : St} {Q : Ex → St → Prop} (hc : condOf s.tm c = some true) (h : WC E a s Q) : WC E (.cond c a b) s Q := by
  obtain ⟨x, s', ⟨k, h1⟩, h2⟩ := h
  exact ⟨x, s', ⟨k, fun N n hN hn => by simp only [evCode, hc]; exact h1 N n hN hn⟩, h2⟩
theorem WC_false {c : Operand} {a b : Code} {s : St} {Q : Ex → St → Prop} (hc : condOf s.tm c = some false) (h : WC E b s Q) : WC E (.cond c a b) s Q := by
  obtain ⟨x, s', ⟨k, h1⟩, h2⟩ := h
  exact ⟨x, s', ⟨k, fun N n hN hn => by simp only [evCode, hc]; exact h1 N n hN hn⟩, h2⟩
theorem WC_cond {c : Operand} {a b : Code} {s : St} {Q : Ex → St → Prop} (v : Bool) (hc : condOf s.tm c = some v) (h1 : v = true → WC E a s Q) (h2 : v = false → WC E b s Q) : WC E (.cond c a b) s Q := by
  cases v with
  | true => exact WC_true hc (h1 rfl)
  | false => exact WC_false hc (h2 rfl)
def blkQ (id : Nat) (Q : Ex → St → Prop) : Ex → St → Prop
  | .exit i, s => bif Nat.beq i id then Q .nrm s else Q (.exit i) s
  | .ret, s => Q .ret s
  | .nrm, s => Q .nrm s
theorem WC_block {id : Nat} {a : Code} {s : St} {Q : Ex → St → Prop} (h : WC E a s (blkQ id Q)) : WC E (.block id a) s Q := by
  obtain ⟨x, s', ⟨k, h1⟩, h2⟩ := h
  cases x with
  | nrm => exact ⟨_, _, ⟨k, fun N n hN hn => by simp only [evCode, h1 N n hN hn]⟩, h2⟩
  | ret => exact ⟨_, _, ⟨k, fun N n hN hn => by simp only [evCode, h1 N n hN hn]⟩, h2⟩
  | exit i =>
    simp only [blkQ] at h2
    cases hb : Nat.beq i id with
    | true =>
      rw [hb] at h2
      exact ⟨_, _, ⟨k, fun N n hN hn => by simp only [evCode, h1 N n hN hn, hb, cond_true]⟩, h2⟩
    | false =>
      rw [hb] at h2
      exact ⟨_, _, ⟨k, fun N n hN hn => by simp only [evCode, h1 N n hN hn, hb, cond_false]⟩, h2⟩
theorem WC_region {id : Nat} {ops : Array Oper} {s : St} {Q : Ex → St → Prop} (h : WO E ops.toList ops.toList s (Q .nrm)) : WC E (.region id ops false) s Q := by
  obtain ⟨s', ⟨k, h1⟩, h2⟩ := h
  exact ⟨_, _, ⟨k, fun N n hN hn => by simp only [evCode, cond_false, h1 N n hN hn]⟩, h2⟩
/-- what a drawn region's trace must pass -/
def trOk (ops : List Oper) (tr : List Tri) : Bool := match tr with
  | [] => true
  | [_] => true
  | tr => okAll (befs [] ops) tr
theorem WC_draw {id : Nat} {ops : Array Oper} {s : St} {prs : List (Option PV)} {m : PM} {Q : Ex → St → Prop} (hp : preA E ops.toList s.me = some (prs, m)) (h : WD E ops.toList 0 prs ops.toList ⟨s.tm, s.nt, m, s.df⟩ [] fun s' tr => trOk ops.toList tr = true ∧ Q .nrm s') : WC E (.region id ops true) s Q := by
  obtain ⟨s', tr, ⟨k, h1⟩, h3, h2⟩ := h
  refine ⟨_, s', ⟨k, fun N n hN hn => ?_⟩, h2⟩
  simp only [evCode, cond_true, evDraw, hp, h1 N n hN hn]
  unfold trOk at h3
  match tr with
  | [] => rfl
  | [_] => rfl
  | a :: b :: r =>
    simp only at h3
    simp only [h3, cond_true]

/-! ### loops: as long as something falls -/
def loopQ (E : Env) (cd : Code) (Q : Ex → St → Prop) : Ex → St → Prop
  | .nrm, s => WL E cd s Q
  | .ret, s => Q .ret s
  | .exit i, s => Q (.exit i) s
theorem WL_step {cd : Code} {s : St} {Q : Ex → St → Prop} (h : WC E cd s (loopQ E cd Q)) : WL E cd s Q := by
  obtain ⟨x, s', ⟨k, h1⟩, h2⟩ := h
  have one : ∀ {N n j : Nat}, k + 1 ≤ N → k + 1 ≤ n → k + 1 ≤ j → ∃ j', j = j' + 1 := fun {N n j} _ _ h => ⟨j - 1, by omega⟩
  cases x with
  | nrm =>
    obtain ⟨y, s2, ⟨k2, h3⟩, h4⟩ := h2
    refine ⟨y, s2, ⟨max k k2 + 1, fun N n j hN hn hj => ?_⟩, h4⟩
    obtain ⟨j', rfl⟩ : ∃ j', j = j' + 1 := ⟨j - 1, by omega⟩
    simp only [loopN, h1 N n (by omega) (by omega)]
    exact h3 N n j' (by omega) (by omega) (by omega)
  | ret =>
    refine ⟨_, _, ⟨k + 1, fun N n j hN hn hj => ?_⟩, h2⟩
    obtain ⟨j', rfl⟩ := one hN hn hj
    simp only [loopN, h1 N n (by omega) (by omega)]
  | exit i =>
    refine ⟨_, _, ⟨k + 1, fun N n j hN hn hj => ?_⟩, h2⟩
    obtain ⟨j', rfl⟩ := one hN hn hj
    simp only [loopN, h1 N n (by omega) (by omega)]
theorem WC_loop0 {cd : Code} {s : St} {Q : Ex → St → Prop} (h : WL E cd s Q) : WC E (.loop cd) s Q := by
  obtain ⟨x, s', ⟨k, h1⟩, h2⟩ := h
  exact ⟨x, s', ⟨k, fun N n hN hn => h1 N n N hN hn hN⟩, h2⟩
/-- the loop's law: 'I j s': before a round, at most j rounds are left -/
theorem WC_loop {cd : Code} {s : St} {Q : Ex → St → Prop} (I : Nat → St → Prop) (j : Nat) (h0 : I j s) (h : ∀ j s, I j s → WC E cd s fun x s' => match x with
    | .nrm => ∃ j', j' < j ∧ I j' s'
    | .ret => Q .ret s'
    | .exit i => Q (.exit i) s') : WC E (.loop cd) s Q := by
  refine WC_loop0 ?_
  have key : ∀ n j s, j < n → I j s → WL E cd s Q := by
    intro n
    induction n with
    | zero => intro j s h; omega
    | succ n ih =>
      intro j s hj hI
      refine WL_step ((h j s hI).mono ?_)
      intro x s' hx
      cases x with
      | nrm => obtain ⟨j', h1, h2⟩ := hx; exact ih j' s' (by omega) h2
      | ret => exact hx
      | exit i => exact hx
  exact key (j + 1) j s (by omega) h0

/-! ### operations -/
theorem WO_nil {all : List Oper} {s : St} {Q : St → Prop} (h : Q s) : WO E all [] s Q := ⟨s, ⟨0, fun _ _ _ _ => rfl⟩, h⟩
/-- an operation that calls nobody -/
def stepP (E : Env) (all : List Oper) (o : Oper) (s : St) : Option St := match guardOk s.tm all o.guard with
  | some true => match callOf (evo s.tm) o.op with
    | some _ => none
    | none => match deferOf (evo s.tm) o.op with
      | some (some d) => put ⟨s.tm, s.nt, s.me, d :: s.df⟩ o.dst undefPV s.me
      | some none => none
      | none => put2 s o.dst (evOp E (evo s.tm) s.me o.op)
  | some false => put s o.dst undefPV s.me
  | none => none
theorem WO_step {all os : List Oper} {o : Oper} {s s1 : St} {Q : St → Prop} (h : stepP E all o s = some s1) (hk : WO E all os s1 Q) : WO E all (o :: os) s Q := by
  obtain ⟨s', ⟨k, h1⟩, h2⟩ := hk
  refine ⟨s', ⟨k, fun N n hN hn => ?_⟩, h2⟩
  unfold stepP at h
  simp only [evOps]
  split at h
  · rename_i hg
    simp only [hg, evOper]
    split at h
    · cases h
    · rename_i hc
      simp only [hc]
      split at h
      · rename_i d hd
        simp only [hd, h]
        exact h1 N n hN hn
      · cases h
      · rename_i hd
        simp only [hd, h]
        exact h1 N n hN hn
  · rename_i hg
    simp only [hg, h]
    exact h1 N n hN hn
  · cases h
/-- operations that call nobody, one after the other -/
def stepsP (E : Env) (all : List Oper) : List Oper → St → Option St
  | [], s => some s
  | o :: os, s => match stepP E all o s with
    | some s' => stepsP E all os s'
    | none => none
theorem WO_steps {all : List Oper} : ∀ {os os' : List Oper} {s s1 : St} {Q : St → Prop}, stepsP E all os s = some s1 → WO E all os' s1 Q → WO E all (os ++ os') s Q
  | [], _, _, _, _, h, hk => by cases h; exact hk
  | o :: os, os', s, s1, Q, h, hk => by
    simp only [stepsP] at h
    split at h
    · rename_i s' hs'
      exact WO_step hs' (WO_steps h hk)
    · cases h
theorem WO_take (n : Nat) {all os : List Oper} {s s1 : St} {Q : St → Prop} (h : stepsP E all (os.take n) s = some s1) (hk : WO E all (os.drop n) s1 Q) : WO E all os s Q := by
  have := WO_steps h hk
  rwa [List.take_append_drop] at this
theorem WO_all {all os : List Oper} {s s1 : St} {Q : St → Prop} (h : stepsP E all os s = some s1) (hk : Q s1) : WO E all os s Q := by
  have := WO_steps (os' := []) h (WO_nil hk)
  rwa [List.append_nil] at this
/-- a call -/
theorem WO_call {all os : List Oper} {o : Oper} {s s1 : St} {Q : St → Prop} (f : Nat) (l : List PV) (q : PV) (m' : PM) (hg : guardOk s.tm all o.guard = some true) (hc : callOf (evo s.tm) o.op = some (some (f, l))) (hf : Ev E f l s.me q m')
    (hp : put s o.dst q m' = some s1) (hk : WO E all os s1 Q) : WO E all (o :: os) s Q := by
  obtain ⟨s', ⟨k, h1⟩, h2⟩ := hk
  obtain ⟨k2, h3⟩ := hf
  refine ⟨s', ⟨max k k2, fun N n hN hn => ?_⟩, h2⟩
  simp only [evOps, hg, evOper, hc, h3 N n (by omega) (by omega), put2, hp]
  exact h1 N n (by omega) (by omega)

/-! ### drawn regions -/
theorem WD_nil {all : List Oper} {i : Nat} {prs : List (Option PV)} {s : St} {tr : List Tri} {Q : St → List Tri → Prop} (h : Q s tr) : WD E all i prs [] s tr Q := by
  refine ⟨s, tr, ⟨0, fun _ _ _ _ => ?_⟩, h⟩
  cases prs <;> rfl
/-- an operation of a drawn region that calls nobody -/
def drP (E : Env) (all : List Oper) (i : Nat) (pr : Option PV) (o : Oper) (s : St) (tr : List Tri) : Option (St × List Tri) := match guardOk s.tm all o.guard with
  | some true => match pr with
    | some p => match put s o.dst p s.me with
      | some s' => some (s', tr)
      | none => none
    | none => match callOf (evo s.tm) o.op with
      | some _ => none
      | none => match drOper E (fun _ _ _ => none) i s o with
        | some (t, r) => match put2 s o.dst r with
          | some s' => some (s', match t with
            | some t => t :: tr
            | none => tr)
          | none => none
        | none => none
  | some false => match put s o.dst undefPV s.me with
    | some s' => some (s', tr)
    | none => none
  | none => none
theorem drOper_any {call call' : Nat → List PV → PM → Option (PV × PM)} {i : Nat} {s : St} {o : Oper} (h : callOf (evo s.tm) o.op = none) : drOper E call i s o = drOper E call' i s o := by
  unfold drOper
  rw [h]
theorem WD_step {all os : List Oper} {i : Nat} {pr : Option PV} {prs : List (Option PV)} {o : Oper} {s s1 : St} {tr tr1 : List Tri} {Q : St → List Tri → Prop} (h : drP E all i pr o s tr = some (s1, tr1)) (hk : WD E all (Nat.succ i) prs os s1 tr1 Q) : WD E all i (pr :: prs) (o :: os) s tr Q := by
  obtain ⟨s', tr', ⟨k, h1⟩, h2⟩ := hk
  refine ⟨s', tr', ⟨k, fun N n hN hn => ?_⟩, h2⟩
  have h1 := h1 N n hN hn
  unfold drP at h
  simp only [drOps]
  cases hg : guardOk s.tm all o.guard with
  | none => rw [hg] at h; cases h
  | some b =>
    rw [hg] at h
    cases b with
    | false =>
      simp only at h ⊢
      cases hp : put s o.dst undefPV s.me with
      | none => rw [hp] at h; cases h
      | some s2 => rw [hp] at h; cases h; exact h1
    | true =>
      simp only at h ⊢
      cases pr with
      | some p =>
        simp only at h ⊢
        cases hp : put s o.dst p s.me with
        | none => rw [hp] at h; cases h
        | some s2 => rw [hp] at h; cases h; exact h1
      | none =>
        simp only at h ⊢
        cases hc : callOf (evo s.tm) o.op with
        | some x => rw [hc] at h; cases h
        | none =>
          rw [hc] at h
          simp only at h
          rw [drOper_any (call' := fun _ _ _ => none) hc]
          cases hd : drOper E (fun _ _ _ => none) i s o with
          | none => rw [hd] at h; cases h
          | some x =>
            obtain ⟨t, r⟩ := x
            rw [hd] at h
            simp only at h ⊢
            cases hp : put2 s o.dst r with
            | none => rw [hp] at h; cases h
            | some s2 =>
              rw [hp] at h
              simp only [Option.some.injEq, Prod.mk.injEq] at h
              obtain ⟨rfl, rfl⟩ := h
              simp only
              exact h1
/-- a call that may be made whenever -/
theorem WD_pure {all os : List Oper} {i : Nat} {prs : List (Option PV)} {o : Oper} {s s1 : St} {tr : List Tri} {Q : St → List Tri → Prop} (f : Nat) (l : List PV) (q : PV) (hg : guardOk s.tm all o.guard = some true) (hc : callOf (evo s.tm) o.op = some (some (f, l)))
    (hf : Ev E f l s.me q s.me) (hpc : pureCall E f l = true) (hp : put s o.dst q s.me = some s1) (hk : WD E all (Nat.succ i) prs os s1 tr Q) : WD E all i (none :: prs) (o :: os) s tr Q := by
  obtain ⟨s', tr', ⟨k, h1⟩, h2⟩ := hk
  obtain ⟨k2, h3⟩ := hf
  refine ⟨s', tr', ⟨max k k2, fun N n hN hn => ?_⟩, h2⟩
  simp only [drOps, hg, drOper, hc, h3 N n (by omega) (by omega), hpc, cond_true, put2, hp]
  exact h1 N n (by omega) (by omega)
theorem WD_call {all os : List Oper} {i : Nat} {prs : List (Option PV)} {o : Oper} {s s1 : St} {tr : List Tri} {Q : St → List Tri → Prop} (f : Nat) (l : List PV) (q : PV) (m' : PM) (hg : guardOk s.tm all o.guard = some true) (hc : callOf (evo s.tm) o.op = some (some (f, l)))
    (hf : Ev E f l s.me q m') (hpc : pureCall E f l = false) (hp : put s o.dst q m' = some s1) (hk : WD E all (Nat.succ i) prs os s1 (.wr i s.me m' :: tr) Q) : WD E all i (none :: prs) (o :: os) s tr Q := by
  obtain ⟨s', tr', ⟨k, h1⟩, h2⟩ := hk
  obtain ⟨k2, h3⟩ := hf
  refine ⟨s', tr', ⟨max k k2, fun N n hN hn => ?_⟩, h2⟩
  simp only [drOps, hg, drOper, hc, h3 N n (by omega) (by omega), hpc, cond_false, put2, hp]
  exact h1 N n (by omega) (by omega)

/-! ### functions -/
/-- what is left behind a body -/
structure BodyQ (E : Env) (fn : Func) (R : PV → PM → Prop) (x : Ex) (s : St) : Prop where
  ex : (∀ i, x ≠ .exit i) ∧ guards E s.df = true ∧ ∃ r, resultsOf E s.tm s.me fn.results.toList = some r ∧ R (oneOrTup r) s.me
theorem EvB {f : Nat} {fn : Func} {cd : Code} {l : List PV} {m : PM} {R : PV → PM → Prop} (hfn : E.fn f = some fn) (hb : fn.body = some cd) (hl : Nat.ble l.length fn.ntmps = true) (h : WC E cd ⟨bindArgs 0 l .leaf, fn.ntmps, m, []⟩ (BodyQ E fn R)) :
    ∃ q m', (∃ k, ∀ N n, k ≤ N → k ≤ n → evBody E (evCall E N n) N f l m = some (q, m')) ∧ R q m' := by
  obtain ⟨x, s, ⟨k, h1⟩, h2, h3, r, h4, h5⟩ := h
  refine ⟨_, _, ⟨k, fun N n hN hn => ?_⟩, h5⟩
  simp only [evBody, hfn, hb, hl, cond_true, h1 N n hN hn]
  cases x with
  | nrm => simp only [h3, cond_true, h4]
  | ret => simp only [h3, cond_true, h4]
  | exit i => exact absurd rfl (h2 i)
/-- a function with a memory of its own -/
theorem Ev_iso {f : Nat} {fn : Func} {cd : Code} {l : List PV} {q : PV} (hext : E.ext f = none) (hs : E.same f = false) (hi : E.iso f = true) (hfl : flats l = true) (hfn : E.fn f = some fn) (hb : fn.body = some cd) (hl : Nat.ble l.length fn.ntmps = true)
    (h : WC E cd ⟨bindArgs 0 l .leaf, fn.ntmps, .empty, []⟩ (BodyQ E fn fun v m => ∃ m2, reify 12 m v = some (q, m2))) (m : PM) : Ev E f l m q m := by
  obtain ⟨v, m', ⟨k, h1⟩, m2, h2⟩ := EvB hfn hb hl h
  refine ⟨k + 1, fun N n hN hn => ?_⟩
  obtain ⟨n', rfl⟩ : ∃ n', n = n' + 1 := ⟨n - 1, by omega⟩
  simp only [evCall, hext, hs, hi, cond_true, cond_false, reifysW_flats hfl, h1 N n' (by omega) (by omega), h2]
  cases refs q <;> rfl
theorem Ev_isoE {f : Nat} {fn : Func} {cd : Code} {l : List PV} {Φ : PV → Prop} (hext : E.ext f = none) (hs : E.same f = false) (hi : E.iso f = true) (hfl : flats l = true) (hfn : E.fn f = some fn) (hb : fn.body = some cd) (hl : Nat.ble l.length fn.ntmps = true)
    (h : WC E cd ⟨bindArgs 0 l .leaf, fn.ntmps, .empty, []⟩ (BodyQ E fn fun v m => ∃ q m2, reify 12 m v = some (q, m2) ∧ Φ q)) : ∃ q, Φ q ∧ ∀ m, Ev E f l m q m := by
  obtain ⟨v, m', ⟨k, h1⟩, q, m2, h2, h3⟩ := EvB hfn hb hl h
  refine ⟨q, h3, fun m => ⟨k + 1, fun N n hN hn => ?_⟩⟩
  obtain ⟨n', rfl⟩ : ∃ n', n = n' + 1 := ⟨n - 1, by omega⟩
  simp only [evCall, hext, hs, hi, cond_true, cond_false, reifysW_flats hfl, h1 N n' (by omega) (by omega), h2]
  cases refs q <;> rfl
/-- arguments that are read as they stand -/
theorem Ev_isoR {f : Nat} {fn : Func} {cd : Code} {l : List PV} {Φ : PV → Prop} (hext : E.ext f = none) (hs : E.same f = false) (hi : E.iso f = true) (hre : ∀ m, reifysW (reify 11) m l = some (l, m)) (hfn : E.fn f = some fn) (hb : fn.body = some cd) (hl : Nat.ble l.length fn.ntmps = true)
    (h : WC E cd ⟨bindArgs 0 l .leaf, fn.ntmps, .empty, []⟩ (BodyQ E fn fun v m => ∃ q m2, reify 12 m v = some (q, m2) ∧ Φ q)) : ∃ q, Φ q ∧ ∀ m, Ev E f l m q m := by
  obtain ⟨v, m', ⟨k, h1⟩, q, m2, h2, h3⟩ := EvB hfn hb hl h
  refine ⟨q, h3, fun m => ⟨k + 1, fun N n hN hn => ?_⟩⟩
  obtain ⟨n', rfl⟩ : ∃ n', n = n' + 1 := ⟨n - 1, by omega⟩
  simp only [evCall, hext, hs, hi, cond_true, cond_false, hre, h1 N n' (by omega) (by omega), h2]
  cases refs q <;> rfl
theorem Ev_raw {f : Nat} {fn : Func} {cd : Code} {l : List PV} {m m' : PM} {q : PV} (hext : E.ext f = none) (hs : E.same f = false) (hi : E.iso f = false) (hfn : E.fn f = some fn) (hb : fn.body = some cd) (hl : Nat.ble l.length fn.ntmps = true)
    (h : WC E cd ⟨bindArgs 0 l .leaf, fn.ntmps, m, []⟩ (BodyQ E fn fun v m2 => v = q ∧ m2 = m')) : Ev E f l m q m' := by
  obtain ⟨v, m2, ⟨k, h1⟩, rfl, rfl⟩ := EvB hfn hb hl h
  refine ⟨k + 1, fun N n hN hn => ?_⟩
  obtain ⟨n', rfl⟩ : ∃ n', n = n' + 1 := ⟨n - 1, by omega⟩
  simp only [evCall, hext, hs, hi, cond_false, h1 N n' (by omega) (by omega)]
theorem Ev_rawE {f : Nat} {fn : Func} {cd : Code} {l : List PV} {m : PM} {R : PV → PM → Prop} (hext : E.ext f = none) (hs : E.same f = false) (hi : E.iso f = false) (hfn : E.fn f = some fn) (hb : fn.body = some cd) (hl : Nat.ble l.length fn.ntmps = true)
    (h : WC E cd ⟨bindArgs 0 l .leaf, fn.ntmps, m, []⟩ (BodyQ E fn R)) : ∃ q m', Ev E f l m q m' ∧ R q m' := by
  obtain ⟨v, m2, ⟨k, h1⟩, h2⟩ := EvB hfn hb hl h
  refine ⟨v, m2, ⟨k + 1, fun N n hN hn => ?_⟩, h2⟩
  obtain ⟨n', rfl⟩ : ∃ n', n = n' + 1 := ⟨n - 1, by omega⟩
  simp only [evCall, hext, hs, hi, cond_false, h1 N n' (by omega) (by omega)]
/-- rows that were written are handed on as values -/
theorem Ev_reify {f : Nat} {l ls : List PV} {m m1 : PM} {q : PV} (hext : E.ext f = none) (hs : E.same f = false) (hi : E.iso f = true) (hre : reifysW (reify 11) m l = some (ls, m1)) (hfl : flats ls = true) (h : Ev E f ls m q m) : Ev E f l m q (bif refs q then m1 else m) := by
  obtain ⟨k, h⟩ := h
  refine ⟨k + 1, fun N n hN hn => ?_⟩
  obtain ⟨n', rfl⟩ : ∃ n', n = n' + 1 := ⟨n - 1, by omega⟩
  have h := h N (n' + 1) (by omega) (by omega)
  simp only [evCall, hext, hs, hi, cond_true, cond_false, reifysW_flats hfl] at h
  simp only [evCall, hext, hs, hi, cond_true, cond_false, hre]
  cases hb : evBody E (evCall E N n') N f ls PM.empty with
  | none => rw [hb] at h; cases h
  | some x =>
    obtain ⟨r, m'⟩ := x
    rw [hb] at h
    simp only at h ⊢
    cases hr : reify 12 m' r with
    | none => rw [hr] at h; cases h
    | some y =>
      obtain ⟨r', m3⟩ := y
      rw [hr] at h
      simp only at h ⊢
      have := Option.some.inj h
      rw [Prod.mk.injEq] at this
      rw [this.1]
/-- not isolated, but handed a row that must be read first -/
theorem Ev_mem {f : Nat} {fn : Func} {cd : Code} {l as : List PV} {q : PV} {m m1 : PM} (hext : E.ext f = none) (hs : E.same f = false) (hi : E.iso f = true) (hre : reifysW (reify 11) m l = some (as, m1)) (hfn : E.fn f = some fn) (hb : fn.body = some cd) (hl : Nat.ble as.length fn.ntmps = true)
    (h : WC E cd ⟨bindArgs 0 as .leaf, fn.ntmps, .empty, []⟩ (BodyQ E fn fun v m => ∃ m2, reify 12 m v = some (q, m2))) : Ev E f l m q (bif refs q then m1 else m) := by
  obtain ⟨v, m', ⟨k, h1⟩, m2, h2⟩ := EvB hfn hb hl h
  refine ⟨k + 1, fun N n hN hn => ?_⟩
  obtain ⟨n', rfl⟩ : ∃ n', n = n' + 1 := ⟨n - 1, by omega⟩
  simp only [evCall, hext, hs, hi, cond_true, cond_false, hre, h1 N n' (by omega) (by omega), h2]
end
end Go.Ab
/- Rules of the logic, an operation each; texts by program (tools/genw2.py). -/
namespace Go.Ab
section
variable {E : Env}

theorem get_hit {t : Tr PV} {i : Nat} {v : PV} : (t.set i v).get i = some v := Tr.get_set_same _ _ _
theorem get_miss {t : Tr PV} {i j : Nat} {v : PV} {r : Option PV} (h : Nat.beq i j = false) (k : t.get j = r) : (t.set i v).get j = r := by
  rw [Tr.get_set_other _ _ (nbeq h)]; exact k
theorem evo_t {tm : Tr PV} {t : Nat} {v : PV} (h : tm.get t = some v) : evo tm (.tmp t) = some v := by simp only [evo, h]

theorem WO_gt {all os : List Oper} {d : Option Nat} {op : Op} {ty : TypeId} {pos : String} {after : Array Edge} {g : Nat × Bool} {s : St} {Q : St → Prop} (h : guardOk s.tm all (some g) = some true) (k : WO E all (⟨d, op, ty, pos, after, none⟩ :: os) s Q) : WO E all (⟨d, op, ty, pos, after, some g⟩ :: os) s Q := by
  obtain ⟨s', ⟨n, h1⟩, h2⟩ := k
  refine ⟨s', ⟨n, fun N n hN hn => ?_⟩, h2⟩
  have := h1 N n hN hn
  simp only [evOps, guardOk] at this ⊢
  simp only [guardOk] at h
  rw [h]
  exact this
theorem WO_gf {all os : List Oper} {d : Option Nat} {op : Op} {ty : TypeId} {pos : String} {after : Array Edge} {g : Nat × Bool} {s s1 : St} {Q : St → Prop} (h : guardOk s.tm all (some g) = some false) (hp : put s d undefPV s.me = some s1) (k : WO E all os s1 Q) : WO E all (⟨d, op, ty, pos, after, some g⟩ :: os) s Q := by
  refine WO_step (s1 := s1) ?_ k
  unfold stepP
  simp only [h, hp]
theorem WD_gt {all os : List Oper} {i : Nat} {prs : List (Option PV)} {d : Option Nat} {op : Op} {ty : TypeId} {pos : String} {after : Array Edge} {g : Nat × Bool} {s : St} {tr : List Tri} {Q : St → List Tri → Prop} (h : guardOk s.tm all (some g) = some true) (k : WD E all i (none :: prs) (⟨d, op, ty, pos, after, none⟩ :: os) s tr Q) : WD E all i (none :: prs) (⟨d, op, ty, pos, after, some g⟩ :: os) s tr Q := by
  obtain ⟨s', tr', ⟨n, h1⟩, h2⟩ := k
  refine ⟨s', tr', ⟨n, fun N n hN hn => ?_⟩, h2⟩
  have := h1 N n hN hn
  simp only [drOps, guardOk] at this ⊢
  simp only [guardOk] at h
  rw [h]
  exact this
theorem WD_gf {all os : List Oper} {i : Nat} {pr : Option PV} {prs : List (Option PV)} {d : Option Nat} {op : Op} {ty : TypeId} {pos : String} {after : Array Edge} {g : Nat × Bool} {s s1 : St} {tr : List Tri} {Q : St → List Tri → Prop} (h : guardOk s.tm all (some g) = some false) (hp : put s d undefPV s.me = some s1) (k : WD E all (Nat.succ i) prs os s1 tr Q) : WD E all i (pr :: prs) (⟨d, op, ty, pos, after, some g⟩ :: os) s tr Q := by
  refine WD_step (s1 := s1) (tr1 := tr) ?_ k
  unfold drP
  simp only [h, hp]

theorem WO_mv {all os : List Oper} {ty : TypeId} {pos : String} {after : Array Edge} {tm : Tr PV} {nt : Nat} {me : PM} {df : List (Nat × List PV)} {d : Nat} {x : Operand} {v : PV} {Q : St → Prop} (hx : evo tm x = some v) (hn : Nat.blt d nt = true) (k : WO E all os ⟨tm.set d v, nt, me, df⟩ Q) : WO E all (⟨some d, .move x, ty, pos, after, none⟩ :: os) ⟨tm, nt, me, df⟩ Q := by
  refine WO_step (s1 := ⟨tm.set d v, nt, me, df⟩) ?_ k
  have hP : evP E (evo tm) (.move x) = some v := hx
  simp only [stepP, guardOk, callOf, deferOf, evOp, isM, cond_false, hP, put2, put, hn, cond_true]
theorem WD_mv {all os : List Oper} {ty : TypeId} {pos : String} {after : Array Edge} {tm : Tr PV} {nt : Nat} {me : PM} {df : List (Nat × List PV)} {d : Nat} {x : Operand} {v : PV} {i₀ : Nat} {prs : List (Option PV)} {tr : List Tri} {Q : St → List Tri → Prop} (hx : evo tm x = some v) (hn : Nat.blt d nt = true) (k : WD E all (Nat.succ i₀) prs os ⟨tm.set d v, nt, me, df⟩ tr Q) : WD E all i₀ (none :: prs) (⟨some d, .move x, ty, pos, after, none⟩ :: os) ⟨tm, nt, me, df⟩ tr Q := by
  refine WD_step (s1 := ⟨tm.set d v, nt, me, df⟩) (tr1 := tr) ?_ k
  have hP : evP E (evo tm) (.move x) = some v := hx
  simp only [drP, guardOk, callOf, drOper, isM, cond_false, hP, put2, put, hn, cond_true]
theorem WO_as {all os : List Oper} {ty : TypeId} {pos : String} {after : Array Edge} {tm : Tr PV} {nt : Nat} {me : PM} {df : List (Nat × List PV)} {d : Nat} {x : Operand} {v : PV} {Q : St → Prop} (hx : evo tm x = some v) (hn : Nat.blt d nt = true) (k : WO E all os ⟨tm.set d v, nt, me, df⟩ Q) : WO E all (⟨some d, .assign x, ty, pos, after, none⟩ :: os) ⟨tm, nt, me, df⟩ Q := by
  refine WO_step (s1 := ⟨tm.set d v, nt, me, df⟩) ?_ k
  have hP : evP E (evo tm) (.assign x) = some v := hx
  simp only [stepP, guardOk, callOf, deferOf, evOp, isM, cond_false, hP, put2, put, hn, cond_true]
theorem WD_as {all os : List Oper} {ty : TypeId} {pos : String} {after : Array Edge} {tm : Tr PV} {nt : Nat} {me : PM} {df : List (Nat × List PV)} {d : Nat} {x : Operand} {v : PV} {i₀ : Nat} {prs : List (Option PV)} {tr : List Tri} {Q : St → List Tri → Prop} (hx : evo tm x = some v) (hn : Nat.blt d nt = true) (k : WD E all (Nat.succ i₀) prs os ⟨tm.set d v, nt, me, df⟩ tr Q) : WD E all i₀ (none :: prs) (⟨some d, .assign x, ty, pos, after, none⟩ :: os) ⟨tm, nt, me, df⟩ tr Q := by
  refine WD_step (s1 := ⟨tm.set d v, nt, me, df⟩) (tr1 := tr) ?_ k
  have hP : evP E (evo tm) (.assign x) = some v := hx
  simp only [drP, guardOk, callOf, drOper, isM, cond_false, hP, put2, put, hn, cond_true]
theorem WO_bin {all os : List Oper} {ty : TypeId} {pos : String} {after : Array Edge} {tm : Tr PV} {nt : Nat} {me : PM} {df : List (Nat × List PV)} {d : Nat} {bo : BinOp} {t t2 : Nat} {x y : Operand} {a b v : PV} {Q : St → Prop} (hx : evo tm x = some a) (hy : evo tm y = some b) (hv : bin2 (E.ty t) (isCst x || isCst y) bo a b = some v) (hn : Nat.blt d nt = true) (k : WO E all os ⟨tm.set d v, nt, me, df⟩ Q) : WO E all (⟨some d, .binOp bo t x y t2, ty, pos, after, none⟩ :: os) ⟨tm, nt, me, df⟩ Q := by
  refine WO_step (s1 := ⟨tm.set d v, nt, me, df⟩) ?_ k
  have hP : evP E (evo tm) (.binOp bo t x y t2) = some v := by simp only [evP, pBin, hx, hy, hv]
  simp only [stepP, guardOk, callOf, deferOf, evOp, isM, cond_false, hP, put2, put, hn, cond_true]
theorem WD_bin {all os : List Oper} {ty : TypeId} {pos : String} {after : Array Edge} {tm : Tr PV} {nt : Nat} {me : PM} {df : List (Nat × List PV)} {d : Nat} {bo : BinOp} {t t2 : Nat} {x y : Operand} {a b v : PV} {i₀ : Nat} {prs : List (Option PV)} {tr : List Tri} {Q : St → List Tri → Prop} (hx : evo tm x = some a) (hy : evo tm y = some b) (hv : bin2 (E.ty t) (isCst x || isCst y) bo a b = some v) (hn : Nat.blt d nt = true) (k : WD E all (Nat.succ i₀) prs os ⟨tm.set d v, nt, me, df⟩ tr Q) : WD E all i₀ (none :: prs) (⟨some d, .binOp bo t x y t2, ty, pos, after, none⟩ :: os) ⟨tm, nt, me, df⟩ tr Q := by
  refine WD_step (s1 := ⟨tm.set d v, nt, me, df⟩) (tr1 := tr) ?_ k
  have hP : evP E (evo tm) (.binOp bo t x y t2) = some v := by simp only [evP, pBin, hx, hy, hv]
  simp only [drP, guardOk, callOf, drOper, isM, cond_false, hP, put2, put, hn, cond_true]
theorem WO_un {all os : List Oper} {ty : TypeId} {pos : String} {after : Array Edge} {tm : Tr PV} {nt : Nat} {me : PM} {df : List (Nat × List PV)} {d : Nat} {uo : UnOp} {t : Nat} {x : Operand} {a v : PV} {Q : St → Prop} (hx : evo tm x = some a) (hv : pUn uo (some a) = some v) (hn : Nat.blt d nt = true) (k : WO E all os ⟨tm.set d v, nt, me, df⟩ Q) : WO E all (⟨some d, .unOp uo t x, ty, pos, after, none⟩ :: os) ⟨tm, nt, me, df⟩ Q := by
  refine WO_step (s1 := ⟨tm.set d v, nt, me, df⟩) ?_ k
  have hP : evP E (evo tm) (.unOp uo t x) = some v := by simp only [evP, hx, hv]
  simp only [stepP, guardOk, callOf, deferOf, evOp, isM, cond_false, hP, put2, put, hn, cond_true]
theorem WD_un {all os : List Oper} {ty : TypeId} {pos : String} {after : Array Edge} {tm : Tr PV} {nt : Nat} {me : PM} {df : List (Nat × List PV)} {d : Nat} {uo : UnOp} {t : Nat} {x : Operand} {a v : PV} {i₀ : Nat} {prs : List (Option PV)} {tr : List Tri} {Q : St → List Tri → Prop} (hx : evo tm x = some a) (hv : pUn uo (some a) = some v) (hn : Nat.blt d nt = true) (k : WD E all (Nat.succ i₀) prs os ⟨tm.set d v, nt, me, df⟩ tr Q) : WD E all i₀ (none :: prs) (⟨some d, .unOp uo t x, ty, pos, after, none⟩ :: os) ⟨tm, nt, me, df⟩ tr Q := by
  refine WD_step (s1 := ⟨tm.set d v, nt, me, df⟩) (tr1 := tr) ?_ k
  have hP : evP E (evo tm) (.unOp uo t x) = some v := by simp only [evP, hx, hv]
  simp only [drP, guardOk, callOf, drOper, isM, cond_false, hP, put2, put, hn, cond_true]
theorem WO_cv {all os : List Oper} {ty : TypeId} {pos : String} {after : Array Edge} {tm : Tr PV} {nt : Nat} {me : PM} {df : List (Nat × List PV)} {d : Nat} {t t2 : Nat} {ks kd : TI} {x : Operand} {a v : PV} {Q : St → Prop} (hx : evo tm x = some a) (hs : E.ty t = some ks) (hd : E.ty t2 = some kd) (hv : pConv ks.kind kd.kind (some a) = some v) (hn : Nat.blt d nt = true) (k : WO E all os ⟨tm.set d v, nt, me, df⟩ Q) : WO E all (⟨some d, .convert t t2 x, ty, pos, after, none⟩ :: os) ⟨tm, nt, me, df⟩ Q := by
  refine WO_step (s1 := ⟨tm.set d v, nt, me, df⟩) ?_ k
  have hP : evP E (evo tm) (.convert t t2 x) = some v := by simp only [evP, hx, hs, hd, hv]
  simp only [stepP, guardOk, callOf, deferOf, evOp, isM, cond_false, hP, put2, put, hn, cond_true]
theorem WD_cv {all os : List Oper} {ty : TypeId} {pos : String} {after : Array Edge} {tm : Tr PV} {nt : Nat} {me : PM} {df : List (Nat × List PV)} {d : Nat} {t t2 : Nat} {ks kd : TI} {x : Operand} {a v : PV} {i₀ : Nat} {prs : List (Option PV)} {tr : List Tri} {Q : St → List Tri → Prop} (hx : evo tm x = some a) (hs : E.ty t = some ks) (hd : E.ty t2 = some kd) (hv : pConv ks.kind kd.kind (some a) = some v) (hn : Nat.blt d nt = true) (k : WD E all (Nat.succ i₀) prs os ⟨tm.set d v, nt, me, df⟩ tr Q) : WD E all i₀ (none :: prs) (⟨some d, .convert t t2 x, ty, pos, after, none⟩ :: os) ⟨tm, nt, me, df⟩ tr Q := by
  refine WD_step (s1 := ⟨tm.set d v, nt, me, df⟩) (tr1 := tr) ?_ k
  have hP : evP E (evo tm) (.convert t t2 x) = some v := by simp only [evP, hx, hs, hd, hv]
  simp only [drP, guardOk, callOf, drOper, isM, cond_false, hP, put2, put, hn, cond_true]
theorem WO_b1 {all os : List Oper} {ty : TypeId} {pos : String} {after : Array Edge} {tm : Tr PV} {nt : Nat} {me : PM} {df : List (Nat × List PV)} {d : Nat} {bi : Builtin} {ts : Array TypeId} {x : Operand} {a v : PV} {Q : St → Prop} (hx : evo tm x = some a) (hb : isMB bi = false) (hv : pBuiltin E bi ts.toList (some [a]) = some v) (hn : Nat.blt d nt = true) (k : WO E all os ⟨tm.set d v, nt, me, df⟩ Q) : WO E all (⟨some d, .call ⟨.builtin bi, #[x], ts⟩, ty, pos, after, none⟩ :: os) ⟨tm, nt, me, df⟩ Q := by
  refine WO_step (s1 := ⟨tm.set d v, nt, me, df⟩) ?_ k
  have hP : evP E (evo tm) (.call ⟨.builtin bi, #[x], ts⟩) = some v := by simp only [evP, evs, hx, hv]
  simp only [stepP, guardOk, callOf, deferOf, evOp, isM, hb, cond_false, hP, put2, put, hn, cond_true]
theorem WD_b1 {all os : List Oper} {ty : TypeId} {pos : String} {after : Array Edge} {tm : Tr PV} {nt : Nat} {me : PM} {df : List (Nat × List PV)} {d : Nat} {bi : Builtin} {ts : Array TypeId} {x : Operand} {a v : PV} {i₀ : Nat} {prs : List (Option PV)} {tr : List Tri} {Q : St → List Tri → Prop} (hx : evo tm x = some a) (hb : isMB bi = false) (hv : pBuiltin E bi ts.toList (some [a]) = some v) (hn : Nat.blt d nt = true) (k : WD E all (Nat.succ i₀) prs os ⟨tm.set d v, nt, me, df⟩ tr Q) : WD E all i₀ (none :: prs) (⟨some d, .call ⟨.builtin bi, #[x], ts⟩, ty, pos, after, none⟩ :: os) ⟨tm, nt, me, df⟩ tr Q := by
  refine WD_step (s1 := ⟨tm.set d v, nt, me, df⟩) (tr1 := tr) ?_ k
  have hP : evP E (evo tm) (.call ⟨.builtin bi, #[x], ts⟩) = some v := by simp only [evP, evs, hx, hv]
  simp only [drP, guardOk, callOf, drOper, isM, hb, cond_false, hP, put2, put, hn, cond_true]
theorem WO_b2 {all os : List Oper} {ty : TypeId} {pos : String} {after : Array Edge} {tm : Tr PV} {nt : Nat} {me : PM} {df : List (Nat × List PV)} {d : Nat} {bi : Builtin} {ts : Array TypeId} {x y : Operand} {a b v : PV} {Q : St → Prop} (hx : evo tm x = some a) (hy : evo tm y = some b) (hb : isMB bi = false) (hv : pBuiltin E bi ts.toList (some [a, b]) = some v) (hn : Nat.blt d nt = true) (k : WO E all os ⟨tm.set d v, nt, me, df⟩ Q) : WO E all (⟨some d, .call ⟨.builtin bi, #[x, y], ts⟩, ty, pos, after, none⟩ :: os) ⟨tm, nt, me, df⟩ Q := by
  refine WO_step (s1 := ⟨tm.set d v, nt, me, df⟩) ?_ k
  have hP : evP E (evo tm) (.call ⟨.builtin bi, #[x, y], ts⟩) = some v := by simp only [evP, evs, hx, hy, hv]
  simp only [stepP, guardOk, callOf, deferOf, evOp, isM, hb, cond_false, hP, put2, put, hn, cond_true]
theorem WD_b2 {all os : List Oper} {ty : TypeId} {pos : String} {after : Array Edge} {tm : Tr PV} {nt : Nat} {me : PM} {df : List (Nat × List PV)} {d : Nat} {bi : Builtin} {ts : Array TypeId} {x y : Operand} {a b v : PV} {i₀ : Nat} {prs : List (Option PV)} {tr : List Tri} {Q : St → List Tri → Prop} (hx : evo tm x = some a) (hy : evo tm y = some b) (hb : isMB bi = false) (hv : pBuiltin E bi ts.toList (some [a, b]) = some v) (hn : Nat.blt d nt = true) (k : WD E all (Nat.succ i₀) prs os ⟨tm.set d v, nt, me, df⟩ tr Q) : WD E all i₀ (none :: prs) (⟨some d, .call ⟨.builtin bi, #[x, y], ts⟩, ty, pos, after, none⟩ :: os) ⟨tm, nt, me, df⟩ tr Q := by
  refine WD_step (s1 := ⟨tm.set d v, nt, me, df⟩) (tr1 := tr) ?_ k
  have hP : evP E (evo tm) (.call ⟨.builtin bi, #[x, y], ts⟩) = some v := by simp only [evP, evs, hx, hy, hv]
  simp only [drP, guardOk, callOf, drOper, isM, hb, cond_false, hP, put2, put, hn, cond_true]
theorem WO_ex {all os : List Oper} {ty : TypeId} {pos : String} {after : Array Edge} {tm : Tr PV} {nt : Nat} {me : PM} {df : List (Nat × List PV)} {d i : Nat} {x : Operand} {a v : PV} {Q : St → Prop} (hx : evo tm x = some a) (hv : pExt (some a) i = some v) (hn : Nat.blt d nt = true) (k : WO E all os ⟨tm.set d v, nt, me, df⟩ Q) : WO E all (⟨some d, .extract x i, ty, pos, after, none⟩ :: os) ⟨tm, nt, me, df⟩ Q := by
  refine WO_step (s1 := ⟨tm.set d v, nt, me, df⟩) ?_ k
  have hP : evP E (evo tm) (.extract x i) = some v := by simp only [evP, hx, hv]
  simp only [stepP, guardOk, callOf, deferOf, evOp, isM, cond_false, hP, put2, put, hn, cond_true]
theorem WD_ex {all os : List Oper} {ty : TypeId} {pos : String} {after : Array Edge} {tm : Tr PV} {nt : Nat} {me : PM} {df : List (Nat × List PV)} {d i : Nat} {x : Operand} {a v : PV} {i₀ : Nat} {prs : List (Option PV)} {tr : List Tri} {Q : St → List Tri → Prop} (hx : evo tm x = some a) (hv : pExt (some a) i = some v) (hn : Nat.blt d nt = true) (k : WD E all (Nat.succ i₀) prs os ⟨tm.set d v, nt, me, df⟩ tr Q) : WD E all i₀ (none :: prs) (⟨some d, .extract x i, ty, pos, after, none⟩ :: os) ⟨tm, nt, me, df⟩ tr Q := by
  refine WD_step (s1 := ⟨tm.set d v, nt, me, df⟩) (tr1 := tr) ?_ k
  have hP : evP E (evo tm) (.extract x i) = some v := by simp only [evP, hx, hv]
  simp only [drP, guardOk, callOf, drOper, isM, cond_false, hP, put2, put, hn, cond_true]
theorem WO_fa {all os : List Oper} {ty : TypeId} {pos : String} {after : Array Edge} {tm : Tr PV} {nt : Nat} {me : PM} {df : List (Nat × List PV)} {d t i : Nat} {x : Operand} {a v : PV} {Q : St → Prop} (hx : evo tm x = some a) (hv : pFA (E.ty t) (some a) i = some v) (hn : Nat.blt d nt = true) (k : WO E all os ⟨tm.set d v, nt, me, df⟩ Q) : WO E all (⟨some d, .fieldAddr t x i, ty, pos, after, none⟩ :: os) ⟨tm, nt, me, df⟩ Q := by
  refine WO_step (s1 := ⟨tm.set d v, nt, me, df⟩) ?_ k
  have hP : evP E (evo tm) (.fieldAddr t x i) = some v := by simp only [evP, hx, hv]
  simp only [stepP, guardOk, callOf, deferOf, evOp, isM, cond_false, hP, put2, put, hn, cond_true]
theorem WD_fa {all os : List Oper} {ty : TypeId} {pos : String} {after : Array Edge} {tm : Tr PV} {nt : Nat} {me : PM} {df : List (Nat × List PV)} {d t i : Nat} {x : Operand} {a v : PV} {i₀ : Nat} {prs : List (Option PV)} {tr : List Tri} {Q : St → List Tri → Prop} (hx : evo tm x = some a) (hv : pFA (E.ty t) (some a) i = some v) (hn : Nat.blt d nt = true) (k : WD E all (Nat.succ i₀) prs os ⟨tm.set d v, nt, me, df⟩ tr Q) : WD E all i₀ (none :: prs) (⟨some d, .fieldAddr t x i, ty, pos, after, none⟩ :: os) ⟨tm, nt, me, df⟩ tr Q := by
  refine WD_step (s1 := ⟨tm.set d v, nt, me, df⟩) (tr1 := tr) ?_ k
  have hP : evP E (evo tm) (.fieldAddr t x i) = some v := by simp only [evP, hx, hv]
  simp only [drP, guardOk, callOf, drOper, isM, cond_false, hP, put2, put, hn, cond_true]
theorem WO_fd {all os : List Oper} {ty : TypeId} {pos : String} {after : Array Edge} {tm : Tr PV} {nt : Nat} {me : PM} {df : List (Nat × List PV)} {d t i : Nat} {x : Operand} {a v : PV} {Q : St → Prop} (hx : evo tm x = some a) (hv : pField (E.ty t) (some a) i = some v) (hn : Nat.blt d nt = true) (k : WO E all os ⟨tm.set d v, nt, me, df⟩ Q) : WO E all (⟨some d, .field t x i, ty, pos, after, none⟩ :: os) ⟨tm, nt, me, df⟩ Q := by
  refine WO_step (s1 := ⟨tm.set d v, nt, me, df⟩) ?_ k
  have hP : evP E (evo tm) (.field t x i) = some v := by simp only [evP, hx, hv]
  simp only [stepP, guardOk, callOf, deferOf, evOp, isM, cond_false, hP, put2, put, hn, cond_true]
theorem WD_fd {all os : List Oper} {ty : TypeId} {pos : String} {after : Array Edge} {tm : Tr PV} {nt : Nat} {me : PM} {df : List (Nat × List PV)} {d t i : Nat} {x : Operand} {a v : PV} {i₀ : Nat} {prs : List (Option PV)} {tr : List Tri} {Q : St → List Tri → Prop} (hx : evo tm x = some a) (hv : pField (E.ty t) (some a) i = some v) (hn : Nat.blt d nt = true) (k : WD E all (Nat.succ i₀) prs os ⟨tm.set d v, nt, me, df⟩ tr Q) : WD E all i₀ (none :: prs) (⟨some d, .field t x i, ty, pos, after, none⟩ :: os) ⟨tm, nt, me, df⟩ tr Q := by
  refine WD_step (s1 := ⟨tm.set d v, nt, me, df⟩) (tr1 := tr) ?_ k
  have hP : evP E (evo tm) (.field t x i) = some v := by simp only [evP, hx, hv]
  simp only [drP, guardOk, callOf, drOper, isM, cond_false, hP, put2, put, hn, cond_true]
theorem WO_ia {all os : List Oper} {ty : TypeId} {pos : String} {after : Array Edge} {tm : Tr PV} {nt : Nat} {me : PM} {df : List (Nat × List PV)} {d t : Nat} {x y : Operand} {a b v : PV} {Q : St → Prop} (hx : evo tm x = some a) (hy : evo tm y = some b) (hv : pIA (E.ty t) (some a) (some b) = some v) (hn : Nat.blt d nt = true) (k : WO E all os ⟨tm.set d v, nt, me, df⟩ Q) : WO E all (⟨some d, .indexAddr t x y, ty, pos, after, none⟩ :: os) ⟨tm, nt, me, df⟩ Q := by
  refine WO_step (s1 := ⟨tm.set d v, nt, me, df⟩) ?_ k
  have hP : evP E (evo tm) (.indexAddr t x y) = some v := by simp only [evP, hx, hy, hv]
  simp only [stepP, guardOk, callOf, deferOf, evOp, isM, cond_false, hP, put2, put, hn, cond_true]
theorem WD_ia {all os : List Oper} {ty : TypeId} {pos : String} {after : Array Edge} {tm : Tr PV} {nt : Nat} {me : PM} {df : List (Nat × List PV)} {d t : Nat} {x y : Operand} {a b v : PV} {i₀ : Nat} {prs : List (Option PV)} {tr : List Tri} {Q : St → List Tri → Prop} (hx : evo tm x = some a) (hy : evo tm y = some b) (hv : pIA (E.ty t) (some a) (some b) = some v) (hn : Nat.blt d nt = true) (k : WD E all (Nat.succ i₀) prs os ⟨tm.set d v, nt, me, df⟩ tr Q) : WD E all i₀ (none :: prs) (⟨some d, .indexAddr t x y, ty, pos, after, none⟩ :: os) ⟨tm, nt, me, df⟩ tr Q := by
  refine WD_step (s1 := ⟨tm.set d v, nt, me, df⟩) (tr1 := tr) ?_ k
  have hP : evP E (evo tm) (.indexAddr t x y) = some v := by simp only [evP, hx, hy, hv]
  simp only [drP, guardOk, callOf, drOper, isM, cond_false, hP, put2, put, hn, cond_true]
theorem WO_ix {all os : List Oper} {ty : TypeId} {pos : String} {after : Array Edge} {tm : Tr PV} {nt : Nat} {me : PM} {df : List (Nat × List PV)} {d t : Nat} {x y : Operand} {a b v : PV} {Q : St → Prop} (hx : evo tm x = some a) (hy : evo tm y = some b) (hv : pIx (E.ty t) (some a) (some b) = some v) (hn : Nat.blt d nt = true) (k : WO E all os ⟨tm.set d v, nt, me, df⟩ Q) : WO E all (⟨some d, .index t x y, ty, pos, after, none⟩ :: os) ⟨tm, nt, me, df⟩ Q := by
  refine WO_step (s1 := ⟨tm.set d v, nt, me, df⟩) ?_ k
  have hP : evP E (evo tm) (.index t x y) = some v := by simp only [evP, hx, hy, hv]
  simp only [stepP, guardOk, callOf, deferOf, evOp, isM, cond_false, hP, put2, put, hn, cond_true]
theorem WD_ix {all os : List Oper} {ty : TypeId} {pos : String} {after : Array Edge} {tm : Tr PV} {nt : Nat} {me : PM} {df : List (Nat × List PV)} {d t : Nat} {x y : Operand} {a b v : PV} {i₀ : Nat} {prs : List (Option PV)} {tr : List Tri} {Q : St → List Tri → Prop} (hx : evo tm x = some a) (hy : evo tm y = some b) (hv : pIx (E.ty t) (some a) (some b) = some v) (hn : Nat.blt d nt = true) (k : WD E all (Nat.succ i₀) prs os ⟨tm.set d v, nt, me, df⟩ tr Q) : WD E all i₀ (none :: prs) (⟨some d, .index t x y, ty, pos, after, none⟩ :: os) ⟨tm, nt, me, df⟩ tr Q := by
  refine WD_step (s1 := ⟨tm.set d v, nt, me, df⟩) (tr1 := tr) ?_ k
  have hP : evP E (evo tm) (.index t x y) = some v := by simp only [evP, hx, hy, hv]
  simp only [drP, guardOk, callOf, drOper, isM, cond_false, hP, put2, put, hn, cond_true]
theorem WO_pk {all os : List Oper} {ty : TypeId} {pos : String} {after : Array Edge} {tm : Tr PV} {nt : Nat} {me : PM} {df : List (Nat × List PV)} {d : Nat} {x y z : Operand} {v : PV} {b : Bool} {Q : St → Prop} (hx : evo tm x = some (.bool b)) (hv : evo tm (bif b then y else z) = some v) (hn : Nat.blt d nt = true) (k : WO E all os ⟨tm.set d v, nt, me, df⟩ Q) : WO E all (⟨some d, .pick x y z, ty, pos, after, none⟩ :: os) ⟨tm, nt, me, df⟩ Q := by
  refine WO_step (s1 := ⟨tm.set d v, nt, me, df⟩) ?_ k
  have hP : evP E (evo tm) (.pick x y z) = some v := by cases b <;> simp only [evP, pPick, hx] <;> exact hv
  simp only [stepP, guardOk, callOf, deferOf, evOp, isM, cond_false, hP, put2, put, hn, cond_true]
theorem WD_pk {all os : List Oper} {ty : TypeId} {pos : String} {after : Array Edge} {tm : Tr PV} {nt : Nat} {me : PM} {df : List (Nat × List PV)} {d : Nat} {x y z : Operand} {v : PV} {b : Bool} {i₀ : Nat} {prs : List (Option PV)} {tr : List Tri} {Q : St → List Tri → Prop} (hx : evo tm x = some (.bool b)) (hv : evo tm (bif b then y else z) = some v) (hn : Nat.blt d nt = true) (k : WD E all (Nat.succ i₀) prs os ⟨tm.set d v, nt, me, df⟩ tr Q) : WD E all i₀ (none :: prs) (⟨some d, .pick x y z, ty, pos, after, none⟩ :: os) ⟨tm, nt, me, df⟩ tr Q := by
  refine WD_step (s1 := ⟨tm.set d v, nt, me, df⟩) (tr1 := tr) ?_ k
  have hP : evP E (evo tm) (.pick x y z) = some v := by cases b <;> simp only [evP, pPick, hx] <;> exact hv
  simp only [drP, guardOk, callOf, drOper, isM, cond_false, hP, put2, put, hn, cond_true]
theorem WO_sl {all os : List Oper} {ty : TypeId} {pos : String} {after : Array Edge} {tm : Tr PV} {nt : Nat} {me : PM} {df : List (Nat × List PV)} {d t : Nat} {x : Operand} {lo hi mx : Option Operand} {a v : PV} {l h m : Option (Option PV)} {Q : St → Prop} (hx : evo tm x = some a) (hl : evopt (evo tm) lo = l) (hh : evopt (evo tm) hi = h) (hm : evopt (evo tm) mx = m) (hv : pSlice (E.ty t) (some a) l h m = some v) (hn : Nat.blt d nt = true) (k : WO E all os ⟨tm.set d v, nt, me, df⟩ Q) : WO E all (⟨some d, .slice t x lo hi mx, ty, pos, after, none⟩ :: os) ⟨tm, nt, me, df⟩ Q := by
  refine WO_step (s1 := ⟨tm.set d v, nt, me, df⟩) ?_ k
  have hP : evP E (evo tm) (.slice t x lo hi mx) = some v := by simp only [evP, hx, hl, hh, hm, hv]
  simp only [stepP, guardOk, callOf, deferOf, evOp, isM, cond_false, hP, put2, put, hn, cond_true]
theorem WD_sl {all os : List Oper} {ty : TypeId} {pos : String} {after : Array Edge} {tm : Tr PV} {nt : Nat} {me : PM} {df : List (Nat × List PV)} {d t : Nat} {x : Operand} {lo hi mx : Option Operand} {a v : PV} {l h m : Option (Option PV)} {i₀ : Nat} {prs : List (Option PV)} {tr : List Tri} {Q : St → List Tri → Prop} (hx : evo tm x = some a) (hl : evopt (evo tm) lo = l) (hh : evopt (evo tm) hi = h) (hm : evopt (evo tm) mx = m) (hv : pSlice (E.ty t) (some a) l h m = some v) (hn : Nat.blt d nt = true) (k : WD E all (Nat.succ i₀) prs os ⟨tm.set d v, nt, me, df⟩ tr Q) : WD E all i₀ (none :: prs) (⟨some d, .slice t x lo hi mx, ty, pos, after, none⟩ :: os) ⟨tm, nt, me, df⟩ tr Q := by
  refine WD_step (s1 := ⟨tm.set d v, nt, me, df⟩) (tr1 := tr) ?_ k
  have hP : evP E (evo tm) (.slice t x lo hi mx) = some v := by simp only [evP, hx, hl, hh, hm, hv]
  simp only [drP, guardOk, callOf, drOper, isM, cond_false, hP, put2, put, hn, cond_true]
theorem WO_bd {all os : List Oper} {ty : TypeId} {pos : String} {after : Array Edge} {tm : Tr PV} {nt : Nat} {me : PM} {df : List (Nat × List PV)} {d t : Nat} {ps : Array (Nat × Operand)} {l : List (Nat × PV)} {v : PV} {Q : St → Prop} (hx : evps (evo tm) ps.toList = some l) (hv : pBuild (E.ty t) (some l) = some v) (hn : Nat.blt d nt = true) (k : WO E all os ⟨tm.set d v, nt, me, df⟩ Q) : WO E all (⟨some d, .build t ps, ty, pos, after, none⟩ :: os) ⟨tm, nt, me, df⟩ Q := by
  refine WO_step (s1 := ⟨tm.set d v, nt, me, df⟩) ?_ k
  have hP : evP E (evo tm) (.build t ps) = some v := by simp only [evP, hx, hv]
  simp only [stepP, guardOk, callOf, deferOf, evOp, isM, cond_false, hP, put2, put, hn, cond_true]
theorem WD_bd {all os : List Oper} {ty : TypeId} {pos : String} {after : Array Edge} {tm : Tr PV} {nt : Nat} {me : PM} {df : List (Nat × List PV)} {d t : Nat} {ps : Array (Nat × Operand)} {l : List (Nat × PV)} {v : PV} {i₀ : Nat} {prs : List (Option PV)} {tr : List Tri} {Q : St → List Tri → Prop} (hx : evps (evo tm) ps.toList = some l) (hv : pBuild (E.ty t) (some l) = some v) (hn : Nat.blt d nt = true) (k : WD E all (Nat.succ i₀) prs os ⟨tm.set d v, nt, me, df⟩ tr Q) : WD E all i₀ (none :: prs) (⟨some d, .build t ps, ty, pos, after, none⟩ :: os) ⟨tm, nt, me, df⟩ tr Q := by
  refine WD_step (s1 := ⟨tm.set d v, nt, me, df⟩) (tr1 := tr) ?_ k
  have hP : evP E (evo tm) (.build t ps) = some v := by simp only [evP, hx, hv]
  simp only [drP, guardOk, callOf, drOper, isM, cond_false, hP, put2, put, hn, cond_true]
theorem WO_bs {all os : List Oper} {ty : TypeId} {pos : String} {after : Array Edge} {tm : Tr PV} {nt : Nat} {me : PM} {df : List (Nat × List PV)} {d t n : Nat} {ps : Array (Nat × Operand)} {l : List (Nat × PV)} {v : PV} {Q : St → Prop} (hx : evps (evo tm) ps.toList = some l) (hv : pBuildSlice (E.ty t) n (some l) = some v) (hn : Nat.blt d nt = true) (k : WO E all os ⟨tm.set d v, nt, me, df⟩ Q) : WO E all (⟨some d, .buildSlice t n ps, ty, pos, after, none⟩ :: os) ⟨tm, nt, me, df⟩ Q := by
  refine WO_step (s1 := ⟨tm.set d v, nt, me, df⟩) ?_ k
  have hP : evP E (evo tm) (.buildSlice t n ps) = some v := by simp only [evP, hx, hv]
  simp only [stepP, guardOk, callOf, deferOf, evOp, isM, cond_false, hP, put2, put, hn, cond_true]
theorem WD_bs {all os : List Oper} {ty : TypeId} {pos : String} {after : Array Edge} {tm : Tr PV} {nt : Nat} {me : PM} {df : List (Nat × List PV)} {d t n : Nat} {ps : Array (Nat × Operand)} {l : List (Nat × PV)} {v : PV} {i₀ : Nat} {prs : List (Option PV)} {tr : List Tri} {Q : St → List Tri → Prop} (hx : evps (evo tm) ps.toList = some l) (hv : pBuildSlice (E.ty t) n (some l) = some v) (hn : Nat.blt d nt = true) (k : WD E all (Nat.succ i₀) prs os ⟨tm.set d v, nt, me, df⟩ tr Q) : WD E all i₀ (none :: prs) (⟨some d, .buildSlice t n ps, ty, pos, after, none⟩ :: os) ⟨tm, nt, me, df⟩ tr Q := by
  refine WD_step (s1 := ⟨tm.set d v, nt, me, df⟩) (tr1 := tr) ?_ k
  have hP : evP E (evo tm) (.buildSlice t n ps) = some v := by simp only [evP, hx, hv]
  simp only [drP, guardOk, callOf, drOper, isM, cond_false, hP, put2, put, hn, cond_true]
theorem WO_al {all os : List Oper} {ty : TypeId} {pos : String} {after : Array Edge} {tm : Tr PV} {nt : Nat} {me : PM} {df : List (Nat × List PV)} {d t : Nat} {v : PV} {m' : PM} {Q : St → Prop} (hv : mAlloc (E.ty t) t me = some (v, m')) (hn : Nat.blt d nt = true) (k : WO E all os ⟨tm.set d v, nt, m', df⟩ Q) : WO E all (⟨some d, .alloc t, ty, pos, after, none⟩ :: os) ⟨tm, nt, me, df⟩ Q := by
  refine WO_step (s1 := ⟨tm.set d v, nt, m', df⟩) ?_ k
  have hM : evM E (evo tm) me (.alloc t) = some (v, m') := by simp only [evM, hv]
  simp only [stepP, guardOk, callOf, deferOf, evOp, isM, cond_true, hM, put2, put, hn]
theorem WO_bx {all os : List Oper} {ty : TypeId} {pos : String} {after : Array Edge} {tm : Tr PV} {nt : Nat} {me : PM} {df : List (Nat × List PV)} {d t : Nat} {x : Operand} {a : PV} {v : PV} {m' : PM} {Q : St → Prop} (hx : evo tm x = some a) (hv : mBox t me (some a) = some (v, m')) (hn : Nat.blt d nt = true) (k : WO E all os ⟨tm.set d v, nt, m', df⟩ Q) : WO E all (⟨some d, .box t x, ty, pos, after, none⟩ :: os) ⟨tm, nt, me, df⟩ Q := by
  refine WO_step (s1 := ⟨tm.set d v, nt, m', df⟩) ?_ k
  have hM : evM E (evo tm) me (.box t x) = some (v, m') := by simp only [evM, hx, hv]
  simp only [stepP, guardOk, callOf, deferOf, evOp, isM, cond_true, hM, put2, put, hn]
theorem WD_bx {all os : List Oper} {ty : TypeId} {pos : String} {after : Array Edge} {tm : Tr PV} {nt : Nat} {me : PM} {df : List (Nat × List PV)} {d t : Nat} {x : Operand} {a : PV} {v : PV} {m' : PM} {i₀ : Nat} {prs : List (Option PV)} {tr : List Tri} {Q : St → List Tri → Prop} (hx : evo tm x = some a) (hv : mBox t me (some a) = some (v, m')) (hn : Nat.blt d nt = true) (k : WD E all (Nat.succ i₀) prs os ⟨tm.set d v, nt, m', df⟩ (.wr i₀ me m' :: tr) Q) : WD E all i₀ (none :: prs) (⟨some d, .box t x, ty, pos, after, none⟩ :: os) ⟨tm, nt, me, df⟩ tr Q := by
  refine WD_step (s1 := ⟨tm.set d v, nt, m', df⟩) (tr1 := .wr i₀ me m' :: tr) ?_ k
  have hM : evM E (evo tm) me (.box t x) = some (v, m') := by simp only [evM, hx, hv]
  simp only [drP, guardOk, callOf, drOper, isM, cond_true, hM, put2, put, hn]
theorem WO_mk {all os : List Oper} {ty : TypeId} {pos : String} {after : Array Edge} {tm : Tr PV} {nt : Nat} {me : PM} {df : List (Nat × List PV)} {d t : Nat} {x y : Operand} {a b : PV} {v : PV} {m' : PM} {Q : St → Prop} (hx : evo tm x = some a) (hy : evo tm y = some b) (hv : mMakeSlice (E.ty t) me (some a) (some b) = some (v, m')) (hn : Nat.blt d nt = true) (k : WO E all os ⟨tm.set d v, nt, m', df⟩ Q) : WO E all (⟨some d, .makeSlice t x y, ty, pos, after, none⟩ :: os) ⟨tm, nt, me, df⟩ Q := by
  refine WO_step (s1 := ⟨tm.set d v, nt, m', df⟩) ?_ k
  have hM : evM E (evo tm) me (.makeSlice t x y) = some (v, m') := by simp only [evM, hx, hy, hv]
  simp only [stepP, guardOk, callOf, deferOf, evOp, isM, cond_true, hM, put2, put, hn]
theorem WD_mk {all os : List Oper} {ty : TypeId} {pos : String} {after : Array Edge} {tm : Tr PV} {nt : Nat} {me : PM} {df : List (Nat × List PV)} {d t : Nat} {x y : Operand} {a b : PV} {v : PV} {m' : PM} {i₀ : Nat} {prs : List (Option PV)} {tr : List Tri} {Q : St → List Tri → Prop} (hx : evo tm x = some a) (hy : evo tm y = some b) (hv : mMakeSlice (E.ty t) me (some a) (some b) = some (v, m')) (hn : Nat.blt d nt = true) (k : WD E all (Nat.succ i₀) prs os ⟨tm.set d v, nt, m', df⟩ (.wr i₀ me m' :: tr) Q) : WD E all i₀ (none :: prs) (⟨some d, .makeSlice t x y, ty, pos, after, none⟩ :: os) ⟨tm, nt, me, df⟩ tr Q := by
  refine WD_step (s1 := ⟨tm.set d v, nt, m', df⟩) (tr1 := .wr i₀ me m' :: tr) ?_ k
  have hM : evM E (evo tm) me (.makeSlice t x y) = some (v, m') := by simp only [evM, hx, hy, hv]
  simp only [drP, guardOk, callOf, drOper, isM, cond_true, hM, put2, put, hn]
theorem WO_m2 {all os : List Oper} {ty : TypeId} {pos : String} {after : Array Edge} {tm : Tr PV} {nt : Nat} {me : PM} {df : List (Nat × List PV)} {d : Nat} {bi : Builtin} {ts : Array TypeId} {x y : Operand} {a b : PV} {v : PV} {m' : PM} {Q : St → Prop} (hx : evo tm x = some a) (hy : evo tm y = some b) (hb : isMB bi = true) (hv : mBuiltin E me bi ts.toList (some [a, b]) = some (v, m')) (hn : Nat.blt d nt = true) (k : WO E all os ⟨tm.set d v, nt, m', df⟩ Q) : WO E all (⟨some d, .call ⟨.builtin bi, #[x, y], ts⟩, ty, pos, after, none⟩ :: os) ⟨tm, nt, me, df⟩ Q := by
  refine WO_step (s1 := ⟨tm.set d v, nt, m', df⟩) ?_ k
  have hM : evM E (evo tm) me (.call ⟨.builtin bi, #[x, y], ts⟩) = some (v, m') := by simp only [evM, evs, hx, hy, hv]
  simp only [stepP, guardOk, callOf, deferOf, evOp, isM, hb, cond_true, hM, put2, put, hn]
theorem WD_m2 {all os : List Oper} {ty : TypeId} {pos : String} {after : Array Edge} {tm : Tr PV} {nt : Nat} {me : PM} {df : List (Nat × List PV)} {d : Nat} {bi : Builtin} {ts : Array TypeId} {x y : Operand} {a b : PV} {v : PV} {m' : PM} {i₀ : Nat} {prs : List (Option PV)} {tr : List Tri} {Q : St → List Tri → Prop} (hx : evo tm x = some a) (hy : evo tm y = some b) (hb : isMB bi = true) (hv : mBuiltin E me bi ts.toList (some [a, b]) = some (v, m')) (hn : Nat.blt d nt = true) (k : WD E all (Nat.succ i₀) prs os ⟨tm.set d v, nt, m', df⟩ (.wr i₀ me m' :: tr) Q) : WD E all i₀ (none :: prs) (⟨some d, .call ⟨.builtin bi, #[x, y], ts⟩, ty, pos, after, none⟩ :: os) ⟨tm, nt, me, df⟩ tr Q := by
  refine WD_step (s1 := ⟨tm.set d v, nt, m', df⟩) (tr1 := .wr i₀ me m' :: tr) ?_ k
  have hM : evM E (evo tm) me (.call ⟨.builtin bi, #[x, y], ts⟩) = some (v, m') := by simp only [evM, evs, hx, hy, hv]
  simp only [drP, guardOk, callOf, drOper, isM, hb, cond_true, hM, put2, put, hn]
theorem WD_al {all os : List Oper} {ty : TypeId} {pos : String} {after : Array Edge} {tm : Tr PV} {nt : Nat} {me : PM} {df : List (Nat × List PV)} {d t : Nat} {p : PV} {i₀ : Nat} {prs : List (Option PV)} {tr : List Tri} {Q : St → List Tri → Prop} (hn : Nat.blt d nt = true) (k : WD E all (Nat.succ i₀) prs os ⟨tm.set d p, nt, me, df⟩ tr Q) : WD E all i₀ (some p :: prs) (⟨some d, .alloc t, ty, pos, after, none⟩ :: os) ⟨tm, nt, me, df⟩ tr Q := by
  refine WD_step (s1 := ⟨tm.set d p, nt, me, df⟩) (tr1 := tr) ?_ k
  simp only [drP, guardOk, put, hn, cond_true]
theorem WO_ld {all os : List Oper} {ty : TypeId} {pos : String} {after : Array Edge} {tm : Tr PV} {nt : Nat} {me : PM} {df : List (Nat × List PV)} {d t : Nat} {x : Operand} {a v : PV} {Q : St → Prop} (hx : evo tm x = some a) (hv : mLoad (E.ty t) me (some a) = some (v, me)) (hn : Nat.blt d nt = true) (k : WO E all os ⟨tm.set d v, nt, me, df⟩ Q) : WO E all (⟨some d, .load t x, ty, pos, after, none⟩ :: os) ⟨tm, nt, me, df⟩ Q := by
  refine WO_step (s1 := ⟨tm.set d v, nt, me, df⟩) ?_ k
  simp only [stepP, guardOk, callOf, deferOf, evOp, isM, cond_true, evM, hx, hv, put2, put, hn]
theorem WD_ld {all os : List Oper} {ty : TypeId} {pos : String} {after : Array Edge} {tm : Tr PV} {nt : Nat} {me : PM} {df : List (Nat × List PV)} {d t : Nat} {x : Operand} {a v : PV} {ti : TI} {i₀ : Nat} {prs : List (Option PV)} {tr : List Tri} {Q : St → List Tri → Prop} (hx : evo tm x = some a) (ht : E.ty t = some ti) (hv : mLoad (some ti) me (some a) = some (v, me)) (hn : Nat.blt d nt = true) (k : WD E all (Nat.succ i₀) prs os ⟨tm.set d v, nt, me, df⟩ (.rd i₀ a ti.sz :: tr) Q) : WD E all i₀ (none :: prs) (⟨some d, .load t x, ty, pos, after, none⟩ :: os) ⟨tm, nt, me, df⟩ tr Q := by
  refine WD_step (s1 := ⟨tm.set d v, nt, me, df⟩) (tr1 := .rd i₀ a ti.sz :: tr) ?_ k
  simp only [drP, guardOk, callOf, drOper, ht, hx, hv, put2, put, hn, cond_true]
theorem WO_st {all os : List Oper} {ty : TypeId} {pos : String} {after : Array Edge} {tm : Tr PV} {nt : Nat} {me : PM} {df : List (Nat × List PV)} {t : Nat} {x y : Operand} {a b : PV} {v : PV} {m' : PM} {Q : St → Prop} (hx : evo tm x = some a) (hy : evo tm y = some b) (hv : mStore (E.ty t) me (some a) (some b) = some (v, m')) (k : WO E all os ⟨tm, nt, m', df⟩ Q) : WO E all (⟨none, .store t x y, ty, pos, after, none⟩ :: os) ⟨tm, nt, me, df⟩ Q := by
  refine WO_step (s1 := ⟨tm, nt, m', df⟩) ?_ k
  simp only [stepP, guardOk, callOf, deferOf, evOp, isM, cond_true, evM, hx, hy, hv, put2, put]
theorem WD_st {all os : List Oper} {ty : TypeId} {pos : String} {after : Array Edge} {tm : Tr PV} {nt : Nat} {me : PM} {df : List (Nat × List PV)} {t : Nat} {x y : Operand} {a b : PV} {v : PV} {m' : PM} {i₀ : Nat} {prs : List (Option PV)} {tr : List Tri} {Q : St → List Tri → Prop} (hx : evo tm x = some a) (hy : evo tm y = some b) (hv : mStore (E.ty t) me (some a) (some b) = some (v, m')) (k : WD E all (Nat.succ i₀) prs os ⟨tm, nt, m', df⟩ (.wr i₀ me m' :: tr) Q) : WD E all i₀ (none :: prs) (⟨none, .store t x y, ty, pos, after, none⟩ :: os) ⟨tm, nt, me, df⟩ tr Q := by
  refine WD_step (s1 := ⟨tm, nt, m', df⟩) (tr1 := .wr i₀ me m' :: tr) ?_ k
  simp only [drP, guardOk, callOf, drOper, isM, cond_true, evM, hx, hy, hv, put2, put]
theorem WO_ca {all os : List Oper} {ty : TypeId} {pos : String} {after : Array Edge} {tm : Tr PV} {nt : Nat} {me : PM} {df : List (Nat × List PV)} {d f : Nat} {args : Array Operand} {ts : Array TypeId} {l : List PV} (q : PV) (m' : PM) {Q : St → Prop} (hx : evs (evo tm) args.toList = some l) (hf : Ev E f l me q m') (hn : Nat.blt d nt = true) (k : WO E all os ⟨tm.set d q, nt, m', df⟩ Q) : WO E all (⟨some d, .call ⟨.value (.func f), args, ts⟩, ty, pos, after, none⟩ :: os) ⟨tm, nt, me, df⟩ Q := by
  refine WO_call (s1 := ⟨tm.set d q, nt, m', df⟩) f l q m' rfl ?_ hf (by simp only [put, hn, cond_true]) k
  simp only [callOf, evo, hx, List.append_nil, List.nil_append]
theorem WD_pu {all os : List Oper} {ty : TypeId} {pos : String} {after : Array Edge} {tm : Tr PV} {nt : Nat} {me : PM} {df : List (Nat × List PV)} {d f : Nat} {args : Array Operand} {ts : Array TypeId} {l : List PV} (q : PV) {i₀ : Nat} {prs : List (Option PV)} {tr : List Tri} {Q : St → List Tri → Prop} (hx : evs (evo tm) args.toList = some l) (hf : Ev E f l me q me) (hpc : pureCall E f l = true) (hn : Nat.blt d nt = true) (k : WD E all (Nat.succ i₀) prs os ⟨tm.set d q, nt, me, df⟩ tr Q) : WD E all i₀ (none :: prs) (⟨some d, .call ⟨.value (.func f), args, ts⟩, ty, pos, after, none⟩ :: os) ⟨tm, nt, me, df⟩ tr Q := by
  refine WD_pure (s1 := ⟨tm.set d q, nt, me, df⟩) f l q rfl ?_ hf hpc (by simp only [put, hn, cond_true]) k
  simp only [callOf, evo, hx, List.append_nil, List.nil_append]
theorem WD_ca {all os : List Oper} {ty : TypeId} {pos : String} {after : Array Edge} {tm : Tr PV} {nt : Nat} {me : PM} {df : List (Nat × List PV)} {d f : Nat} {args : Array Operand} {ts : Array TypeId} {l : List PV} (q : PV) (m' : PM) {i₀ : Nat} {prs : List (Option PV)} {tr : List Tri} {Q : St → List Tri → Prop} (hx : evs (evo tm) args.toList = some l) (hf : Ev E f l me q m') (hpc : pureCall E f l = false) (hn : Nat.blt d nt = true) (k : WD E all (Nat.succ i₀) prs os ⟨tm.set d q, nt, m', df⟩ (.wr i₀ me m' :: tr) Q) : WD E all i₀ (none :: prs) (⟨some d, .call ⟨.value (.func f), args, ts⟩, ty, pos, after, none⟩ :: os) ⟨tm, nt, me, df⟩ tr Q := by
  refine WD_call (s1 := ⟨tm.set d q, nt, m', df⟩) f l q m' rfl ?_ hf hpc (by simp only [put, hn, cond_true]) k
  simp only [callOf, evo, hx, List.append_nil, List.nil_append]
theorem WO_pkt {all os : List Oper} {ty : TypeId} {pos : String} {after : Array Edge} {tm : Tr PV} {nt : Nat} {me : PM} {df : List (Nat × List PV)} {d : Nat} {x y z : Operand} {v : PV} {b : Bool} {Q : St → Prop} (hx : evo tm x = some (.bool b)) (hb : b = true) (hv : evo tm y = some v) (hn : Nat.blt d nt = true) (k : WO E all os ⟨tm.set d v, nt, me, df⟩ Q) : WO E all (⟨some d, .pick x y z, ty, pos, after, none⟩ :: os) ⟨tm, nt, me, df⟩ Q := by
  subst hb; exact WO_pk hx hv hn k
theorem WO_pkf {all os : List Oper} {ty : TypeId} {pos : String} {after : Array Edge} {tm : Tr PV} {nt : Nat} {me : PM} {df : List (Nat × List PV)} {d : Nat} {x y z : Operand} {v : PV} {b : Bool} {Q : St → Prop} (hx : evo tm x = some (.bool b)) (hb : b = false) (hv : evo tm z = some v) (hn : Nat.blt d nt = true) (k : WO E all os ⟨tm.set d v, nt, me, df⟩ Q) : WO E all (⟨some d, .pick x y z, ty, pos, after, none⟩ :: os) ⟨tm, nt, me, df⟩ Q := by
  subst hb; exact WO_pk hx hv hn k
theorem evs1 {ρ : Operand → Option PV} {x : Operand} {a : PV} (hx : ρ x = some a) : evs ρ (#[x] : Array Operand).toList = some [a] := by simp only [evs, hx]
theorem evs2 {ρ : Operand → Option PV} {x y : Operand} {a b : PV} (hx : ρ x = some a) (hy : ρ y = some b) : evs ρ (#[x, y] : Array Operand).toList = some [a, b] := by simp only [evs, hx, hy]
theorem evs3 {ρ : Operand → Option PV} {x y z : Operand} {a b c : PV} (hx : ρ x = some a) (hy : ρ y = some b) (hz : ρ z = some c) : evs ρ (#[x, y, z] : Array Operand).toList = some [a, b, c] := by simp only [evs, hx, hy, hz]
theorem evs5 {ρ : Operand → Option PV} {x y z u v : Operand} {a b c d e : PV} (hx : ρ x = some a) (hy : ρ y = some b) (hz : ρ z = some c) (hu : ρ u = some d) (hv : ρ v = some e) : evs ρ (#[x, y, z, u, v] : Array Operand).toList = some [a, b, c, d, e] := by simp only [evs, hx, hy, hz, hu, hv]
theorem evps0 {ρ : Operand → Option PV} : evps ρ (#[] : Array (Nat × Operand)).toList = some [] := rfl
theorem evps1 {ρ : Operand → Option PV} {i : Nat} {x : Operand} {a : PV} (hx : ρ x = some a) : evps ρ (#[(i, x)] : Array (Nat × Operand)).toList = some [(i, a)] := by simp only [evps, hx]
theorem evps2 {ρ : Operand → Option PV} {i j : Nat} {x y : Operand} {a b : PV} (hx : ρ x = some a) (hy : ρ y = some b) : evps ρ (#[(i, x), (j, y)] : Array (Nat × Operand)).toList = some [(i, a), (j, b)] := by simp only [evps, hx, hy]
theorem evps3 {ρ : Operand → Option PV} {i j k : Nat} {x y z : Operand} {a b c : PV} (hx : ρ x = some a) (hy : ρ y = some b) (hz : ρ z = some c) : evps ρ (#[(i, x), (j, y), (k, z)] : Array (Nat × Operand)).toList = some [(i, a), (j, b), (k, c)] := by simp only [evps, hx, hy, hz]
theorem evopt_n {ρ : Operand → Option PV} : evopt ρ none = some none := rfl
theorem evopt_s {ρ : Operand → Option PV} {x : Operand} {a : PV} (hx : ρ x = some a) : evopt ρ (some x) = some (some a) := by simp only [evopt, hx]
theorem condOf_t {tm : Tr PV} {c : Operand} {b : Bool} (h : evo tm c = some (.bool b)) : condOf tm c = some b := by simp only [condOf, h]
end
end Go.Ab
/- Numbers as rows of limbs, lowest first. -/
namespace Go.Ab

def BB : Nat := 4294967296
theorem BB_eq : BB = 4294967296 := rfl
theorem BB_pos : 0 < BB := by decide
def nv : List Nat → Nat
  | [] => 0
  | x :: xs => x + BB * nv xs
def Ok (a : List Nat) : Prop := ∀ x ∈ a, x < BB
def lm (n : Nat) : List Nat := if h : n = 0 then [] else n % BB :: lm (n / BB)
termination_by n
decreasing_by exact Nat.div_lt_self (by omega) (by decide)
/-- no nought at its end -/
def Trm (a : List Nat) : Bool := match a.getLast? with
  | some x => !Nat.beq x 0
  | none => true

theorem lm_zero : lm 0 = [] := by rw [lm]; simp
theorem lm_pos {n : Nat} (h : n ≠ 0) : lm n = n % BB :: lm (n / BB) := by rw [lm]; simp [h]
theorem Ok.nil : Ok [] := fun _ h => by cases h
theorem Ok.cons {x : Nat} {a : List Nat} (hx : x < BB) (h : Ok a) : Ok (x :: a) := fun y hy => by
  rcases List.mem_cons.1 hy with rfl | hy
  · exact hx
  · exact h y hy
theorem Ok.tail {x : Nat} {a : List Nat} (h : Ok (x :: a)) : Ok a := fun y hy => h y (List.mem_cons_of_mem _ hy)
theorem Ok.head {x : Nat} {a : List Nat} (h : Ok (x :: a)) : x < BB := h x (by simp)
theorem Ok.take {a : List Nat} (h : Ok a) (n : Nat) : Ok (a.take n) := fun x hx => h x (List.mem_of_mem_take hx)
theorem Ok.drop {a : List Nat} (h : Ok a) (n : Nat) : Ok (a.drop n) := fun x hx => h x (List.mem_of_mem_drop hx)
theorem Ok.append {a b : List Nat} (h : Ok a) (h' : Ok b) : Ok (a ++ b) := fun x hx => (List.mem_append.1 hx).elim (h x) (h' x)
theorem Ok.get {a : List Nat} (h : Ok a) {i x : Nat} (hx : a[i]? = some x) : x < BB := h x (List.mem_of_getElem? hx)
theorem Ok.set {a : List Nat} (h : Ok a) {i x : Nat} (hx : x < BB) : Ok (a.set i x) := fun y hy => by
  rcases List.mem_or_eq_of_mem_set hy with h' | rfl
  · exact h y h'
  · exact hx
theorem Ok.replicate {n : Nat} : Ok (List.replicate n 0) := fun x hx => by rw [(List.mem_replicate.1 hx).2]; decide

theorem ok_lm (n : Nat) : Ok (lm n) := by
  induction n using Nat.strongRecOn with
  | _ n ih =>
    by_cases h : n = 0
    · subst h; rw [lm_zero]; exact .nil
    · rw [lm_pos h]; exact .cons (Nat.mod_lt _ BB_pos) (ih _ (Nat.div_lt_self (by omega) (by decide)))
theorem nv_lm (n : Nat) : nv (lm n) = n := by
  induction n using Nat.strongRecOn with
  | _ n ih =>
    by_cases h : n = 0
    · subst h; rw [lm_zero]; rfl
    · rw [lm_pos h, nv, ih _ (Nat.div_lt_self (by omega) (by decide))]
      exact Nat.mod_add_div n BB
theorem nv_append (a b : List Nat) : nv (a ++ b) = nv a + BB ^ a.length * nv b := by
  induction a with
  | nil => simp [nv]
  | cons x a ih => simp only [List.cons_append, nv, ih, List.length_cons, Nat.pow_succ]; rw [Nat.mul_add, Nat.add_assoc, ← Nat.mul_assoc, Nat.mul_comm (BB ^ a.length) BB]
theorem nv_lt {a : List Nat} (h : Ok a) : nv a < BB ^ a.length := by
  induction a with
  | nil => simp [nv]
  | cons x a ih =>
    have h1 := h.head
    have h2 := ih h.tail
    simp only [nv, List.length_cons, Nat.pow_succ]
    have : BB * (nv a + 1) ≤ BB * BB ^ a.length := Nat.mul_le_mul_left _ h2
    rw [Nat.mul_comm (BB ^ a.length)]
    rw [Nat.mul_add] at this
    omega
theorem nv_replicate (n : Nat) : nv (List.replicate n 0) = 0 := by
  induction n with
  | zero => rfl
  | succ n ih => simp [List.replicate_succ, nv, ih]
theorem nv_snoc (a : List Nat) (x : Nat) : nv (a ++ [x]) = nv a + BB ^ a.length * x := by rw [nv_append]; simp [nv]
theorem nv_take_succ {a : List Nat} {i x : Nat} (h : a[i]? = some x) : nv (a.take (i + 1)) = nv (a.take i) + BB ^ i * x := by
  have hi := (List.getElem?_eq_some_iff.1 h).1
  rw [List.take_add_one, h, Option.toList_some, nv_snoc, List.length_take]
  congr 3
  omega
theorem nv_drop {a : List Nat} {i x : Nat} (h : a[i]? = some x) : nv (a.drop i) = x + BB * nv (a.drop (i + 1)) := by
  have hi := (List.getElem?_eq_some_iff.1 h).1
  rw [List.drop_eq_getElem_cons hi, nv]
  congr 1
  rw [List.getElem?_eq_getElem hi] at h
  exact Option.some.inj h
theorem nv_split (a : List Nat) (n : Nat) (h : n ≤ a.length) : nv a = nv (a.take n) + BB ^ n * nv (a.drop n) := by
  have := nv_append (a.take n) (a.drop n)
  rw [List.take_append_drop, List.length_take, Nat.min_eq_left h] at this
  exact this
theorem take_set {a : List Nat} {i x : Nat} (h : i < a.length) : (a.set i x).take (i + 1) = a.take i ++ [x] := by
  rw [List.take_add_one, List.getElem?_set_self h, Option.toList_some, List.take_set_of_le (Nat.le_refl _)]

/-! trimmed rows -/
theorem Trm_cons {x y : Nat} {a : List Nat} : Trm (x :: y :: a) = Trm (y :: a) := by unfold Trm; rw [List.getLast?_cons_cons]
theorem Trm_tail {x : Nat} {a : List Nat} (h : Trm (x :: a) = true) : Trm a = true := by
  cases a with
  | nil => rfl
  | cons y a => rwa [Trm_cons] at h
theorem nv_ne {a : List Nat} (h : Trm a = true) (ha : a ≠ []) : nv a ≠ 0 := by
  induction a with
  | nil => exact absurd rfl ha
  | cons x a ih =>
    cases a with
    | nil =>
      intro h0
      simp only [nv, Nat.mul_zero, Nat.add_zero] at h0
      subst h0
      cases h
    | cons y a =>
      have := ih (Trm_tail h) (by simp)
      intro h0
      simp only [nv] at h0 this
      have : BB * (y + BB * nv a) = 0 := by omega
      rcases Nat.mul_eq_zero.1 this with h' | h'
      · cases h'
      · exact absurd h' (by assumption)
theorem lm_nv {a : List Nat} (ho : Ok a) (h : Trm a = true) : lm (nv a) = a := by
  induction a with
  | nil => exact lm_zero
  | cons x a ih =>
    have hne := nv_ne h (by simp)
    rw [lm_pos hne]
    have e1 : nv (x :: a) % BB = x := by
      simp only [nv]
      rw [Nat.add_mul_mod_self_left, Nat.mod_eq_of_lt ho.head]
    have e2 : nv (x :: a) / BB = nv a := by
      simp only [nv]
      rw [Nat.add_mul_div_left _ _ BB_pos, Nat.div_eq_of_lt ho.head, Nat.zero_add]
    rw [e1, e2, ih ho.tail (Trm_tail h)]
theorem trm_lm (n : Nat) : Trm (lm n) = true := by
  induction n using Nat.strongRecOn with
  | _ n ih =>
    by_cases h : n = 0
    · subst h; rw [lm_zero]; rfl
    · rw [lm_pos h]
      have ih' := ih _ (Nat.div_lt_self (n := n) (k := BB) (by omega) (by decide))
      by_cases h2 : n / BB = 0
      · rw [h2, lm_zero]
        have : n < BB := (Nat.div_eq_zero_iff.1 h2).resolve_left (by decide)
        rw [Nat.mod_eq_of_lt this]
        show (!Nat.beq n 0) = true
        cases hb : Nat.beq n 0 with
        | true => exact absurd (Nat.eq_of_beq_eq_true hb) h
        | false => rfl
      · rw [lm_pos h2] at ih' ⊢
        rw [Trm_cons]; exact ih'
theorem nv_snoc0 (a : List Nat) : nv (a ++ [0]) = nv a := by rw [nv_snoc]; simp
theorem trm_snoc {a : List Nat} {x : Nat} : Trm (a ++ [x]) = !Nat.beq x 0 := by simp [Trm]
theorem lm_length {n k : Nat} : (lm n).length ≤ k ↔ n < BB ^ k := by
  induction k generalizing n with
  | zero =>
    by_cases h : n = 0
    · subst h; simp [lm_zero]
    · rw [lm_pos h]; simp; omega
  | succ k ih =>
    by_cases h : n = 0
    · subst h; simp [lm_zero]; exact Nat.pow_pos BB_pos
    · rw [lm_pos h, List.length_cons, Nat.add_le_add_iff_right, ih, Nat.div_lt_iff_lt_mul BB_pos, Nat.pow_succ]
theorem lm_mono {n m : Nat} (h : n ≤ m) : (lm n).length ≤ (lm m).length := lm_length.2 (Nat.lt_of_le_of_lt h (lm_length.1 (Nat.le_refl _)))
theorem lm_nil {n : Nat} : lm n = [] ↔ n = 0 := by
  constructor
  · intro h
    have := nv_lm n
    rw [h] at this; exact this.symm
  · rintro rfl; exact lm_zero
theorem lm_le {a : List Nat} (h : Ok a) : (lm (nv a)).length ≤ a.length := lm_length.2 (nv_lt h)
theorem lm_lt {n : Nat} : n < BB ^ (lm n).length := lm_length.1 (Nat.le_refl _)
theorem lm_ge {n : Nat} (h : n ≠ 0) : BB ^ ((lm n).length - 1) ≤ n := by
  refine Nat.le_of_not_lt fun hlt => ?_
  have := lm_length.2 hlt
  have h2 : (lm n).length ≠ 0 := fun h0 => h (lm_nil.1 (List.length_eq_zero_iff.1 h0))
  omega

/-! order -/
def cmpI (x y : Nat) : Int := if x < y then -1 else if x = y then 0 else 1
theorem nv_lt_top {a b : List Nat} (ha : Ok a) {i x y : Nat} (hx : a[i]? = some x) (hy : b[i]? = some y) (hd : a.drop (i + 1) = b.drop (i + 1)) (hxy : x < y) : nv a < nv b := by
  have hi := (List.getElem?_eq_some_iff.1 hx).1
  have hi' := (List.getElem?_eq_some_iff.1 hy).1
  have e1 := nv_split a i (by omega)
  have e2 := nv_split b i (by omega)
  rw [nv_drop hx, hd] at e1
  rw [nv_drop hy] at e2
  have h1 := nv_lt (ha.take i)
  rw [List.length_take, Nat.min_eq_left (by omega)] at h1
  have h2 : BB ^ i * (x + 1 + BB * nv (b.drop (i + 1))) ≤ BB ^ i * (y + BB * nv (b.drop (i + 1))) := Nat.mul_le_mul_left _ (by omega)
  have h3 : BB ^ i * (x + 1 + BB * nv (b.drop (i + 1))) = BB ^ i * (x + BB * nv (b.drop (i + 1))) + BB ^ i := by
    rw [show x + 1 + BB * nv (b.drop (i + 1)) = (x + BB * nv (b.drop (i + 1))) + 1 by omega, Nat.mul_add, Nat.mul_one]
  omega
theorem lm_len_lt {x y : Nat} (h : (lm x).length < (lm y).length) : x < y := by
  refine Nat.lt_of_not_le fun hle => ?_
  have := lm_mono hle
  omega
theorem lm_get {n i : Nat} (h : i < (lm n).length) : ∃ x, (lm n)[i]? = some x ∧ x < BB := by
  refine ⟨(lm n)[i], List.getElem?_eq_getElem h, (ok_lm n).get (List.getElem?_eq_getElem h)⟩

/-! sums -/
theorem nv_take_getD (b : List Nat) (i : Nat) : nv (b.take (i + 1)) = nv (b.take i) + BB ^ i * (b[i]?.getD 0) := by
  cases h : b[i]? with
  | some x => exact nv_take_succ h
  | none =>
    have := List.getElem?_eq_none_iff.1 h
    rw [List.take_of_length_le (by omega), List.take_of_length_le this]
    simp
theorem nv_set_take {c : List Nat} {i x : Nat} (h : i < c.length) : nv ((c.set i x).take (i + 1)) = nv (c.take i) + BB ^ i * x := by
  rw [take_set h, nv_snoc, List.length_take, Nat.min_eq_left (by omega)]
/-- a digit and what is carried -/
theorem put_carry {c : List Nat} {i s t : Nat} (h : i < c.length) (hv : nv (c.take i) + BB ^ i * s = t) : nv ((c.set i (s % BB)).take (i + 1)) + BB ^ (i + 1) * (s / BB) = t := by
  rw [nv_set_take h, Nat.pow_succ, Nat.mul_assoc, Nat.add_assoc, ← Nat.mul_add, Nat.mod_add_div]
  exact hv
theorem nv_take_all {c : List Nat} {n : Nat} (h : c.length ≤ n) : nv (c.take n) = nv c := by rw [List.take_of_length_le h]

theorem drop_set_of_lt {c : List Nat} {i x j : Nat} (h : i < j) : (c.set i x).drop j = c.drop j := List.drop_set_of_lt h
theorem get_of_drop {c d : List Nat} {i : Nat} (h : c.drop i = d.drop i) : c[i]? = d[i]? := by
  have := congrArg (fun l => l[0]?) h
  simpa [List.getElem?_drop] using this
theorem drop_succ_of {c d : List Nat} {i : Nat} (h : c.drop i = d.drop i) : c.drop (i + 1) = d.drop (i + 1) := by
  rw [← List.drop_drop, h, List.drop_drop]
theorem mulB {u w : Nat} (hu : u < 4294967296) (hw : w < 4294967296) : u * w ≤ 18446744065119617025 := by
  have := Nat.mul_le_mul (show u ≤ 4294967295 by omega) (show w ≤ 4294967295 by omega)
  omega

/-! 'Sub32' -/
theorem shr31 {n : Nat} (h : n < 4294967296) : n / 2 ^ 31 = if 2147483648 ≤ n then 1 else 0 := by
  split <;> omega
theorem sub32_borrow {x y c d : Nat} (hx : x < 4294967296) (hy : y < 4294967296) (hc : c ≤ 1) (hd : d = ((x + (4294967296 - y)) % 4294967296 + (4294967296 - c)) % 4294967296) :
    (((4294967295 ^^^ x) &&& y) ||| ((4294967295 ^^^ (x ^^^ y)) &&& d)) / 2 ^ 31 = if x < y + c then 1 else 0 := by
  have hd2 : d < 4294967296 := by omega
  rw [← Nat.shiftRight_eq_div_pow, Nat.shiftRight_or_distrib, Nat.shiftRight_and_distrib, Nat.shiftRight_and_distrib, Nat.shiftRight_xor_distrib, Nat.shiftRight_xor_distrib, Nat.shiftRight_xor_distrib]
  simp only [Nat.shiftRight_eq_div_pow]
  rw [shr31 hx, shr31 hy, shr31 hd2, show 4294967295 / 2 ^ 31 = 1 by decide]
  by_cases h1 : 2147483648 ≤ x <;> by_cases h2 : 2147483648 ≤ y <;> by_cases h3 : 2147483648 ≤ d <;> by_cases h4 : x < y + c <;> simp [h1, h2, h3, h4] <;> omega

theorem sub_digit {x w c : Nat} (hx : x < 4294967296) (hw : w < 4294967296) (hc : c ≤ 1) : ((x + (4294967296 - w)) % 4294967296 + (4294967296 - c)) % 4294967296 + (w + c) = x + 4294967296 * (if x < w + c then 1 else 0) := by
  split <;> omega
/-- a digit less another one -/
theorem put_borrow {d a b : List Nat} {i x c : Nat} (hd : i < d.length) (hx : a[i]? = some x) (hx2 : x < BB) (hb : Ok b) (hc : c ≤ 1) (hv : nv (d.take i) + nv (b.take i) = nv (a.take i) + BB ^ i * c) :
    nv ((d.set i (((x + (4294967296 - b[i]?.getD 0)) % 4294967296 + (4294967296 - c)) % 4294967296)).take (i + 1)) + nv (b.take (i + 1)) = nv (a.take (i + 1)) + BB ^ (i + 1) * (if x < b[i]?.getD 0 + c then 1 else 0) := by
  have hw : b[i]?.getD 0 < 4294967296 := by
    cases h : b[i]? with
    | none => decide
    | some w => exact hb.get h
  rw [nv_set_take hd, nv_take_getD b i, nv_take_succ hx]
  have e := sub_digit (x := x) (w := b[i]?.getD 0) (c := c) hx2 hw hc
  generalize b[i]?.getD 0 = w at *
  generalize ((x + (4294967296 - w)) % 4294967296 + (4294967296 - c)) % 4294967296 = g at *
  generalize (if x < w + c then 1 else 0) = o at *
  have e2 : BB ^ i * g + BB ^ i * w + BB ^ i * c = BB ^ i * x + BB ^ (i + 1) * o := by
    rw [Nat.pow_succ, Nat.mul_assoc, ← Nat.mul_add, ← Nat.mul_add, ← Nat.mul_add]
    congr 1
    rw [BB_eq]; omega
  omega

/-! shifts -/
theorem nv_set {c : List Nat} {i x v : Nat} (h : c[i]? = some x) : nv (c.set i v) + BB ^ i * x = nv c + BB ^ i * v := by
  have hi := (List.getElem?_eq_some_iff.1 h).1
  have e1 := nv_split c i (by omega)
  have e2 := nv_split (c.set i v) i (by simp; omega)
  have e3 : (c.set i v)[i]? = some v := List.getElem?_set_self hi
  rw [nv_drop h] at e1
  rw [nv_drop e3, List.take_set_of_le (Nat.le_refl _), drop_set_of_lt (show i < i + 1 by omega)] at e2
  rw [Nat.mul_add] at e1 e2
  omega
theorem shl_lo {x k : Nat} (hk : k ≤ 31) : x * 2 ^ k % 4294967296 = x % 2 ^ (32 - k) * 2 ^ k := by
  have e : 4294967296 = 2 ^ (32 - k) * 2 ^ k := by rw [← Nat.pow_add, show 32 - k + k = 32 by omega]
  rw [e, Nat.mul_mod_mul_right]
theorem or_lo {x k c : Nat} (hk : k ≤ 31) (hc : c < 2 ^ k) : c ||| (x * 2 ^ k % 4294967296) = c + x * 2 ^ k % 4294967296 := by
  rw [shl_lo hk, Nat.mul_comm, Nat.or_comm, ← Nat.two_pow_add_eq_or_of_lt hc, Nat.add_comm]
theorem pow31 {k : Nat} (hk : k ≤ 31) : 2 ^ k ≤ 2147483648 := Nat.pow_le_pow_right (by decide) hk
theorem shl_hi {x k : Nat} (hx : x < 4294967296) : x * 2 ^ k / 4294967296 < 2 ^ k := by
  rw [Nat.div_lt_iff_lt_mul (by decide), Nat.mul_comm (2 ^ k)]
  exact (Nat.mul_lt_mul_right (Nat.pow_pos (by decide))).2 hx
/-- a limb shifted in -/
theorem left_step {a c : List Nat} {i n x k y : Nat} (hk : k ≤ 31) (ha : a[i]? = some x) (hx : x < 4294967296) (hc : c[i]? = some y) (hn : c.length = n) (hi : i + 1 < n) (hz : c[i + 1]? = some 0) (hv : nv c = nv (a.take i) * 2 ^ k) :
    nv ((c.set i (y + x * 2 ^ k % 4294967296)).set (i + 1) (x * 2 ^ k / 4294967296)) = nv (a.take (i + 1)) * 2 ^ k := by
  have e1 := nv_set (c := c) (i := i) (x := y) (v := y + x * 2 ^ k % 4294967296) hc
  have hz2 : (c.set i (y + x * 2 ^ k % 4294967296))[i + 1]? = some 0 := by rw [List.getElem?_set_ne (by omega)]; exact hz
  have e2 := nv_set (v := x * 2 ^ k / 4294967296) hz2
  rw [nv_take_succ ha, Nat.add_mul, ← hv]
  rw [Nat.mul_zero, Nat.add_zero] at e2
  rw [e2]
  have e3 : BB ^ i * x * 2 ^ k = BB ^ i * (x * 2 ^ k % 4294967296) + BB ^ (i + 1) * (x * 2 ^ k / 4294967296) := by
    rw [Nat.pow_succ, Nat.mul_assoc, Nat.mul_assoc, ← Nat.mul_add]
    congr 1
    rw [BB_eq]; omega
  rw [e3]
  rw [Nat.mul_add] at e1
  omega
theorem left_last {a c : List Nat} {i n x k y : Nat} (ha : a[i]? = some x) (hc : c[i]? = some y) (hi : i + 1 = n) (hv : nv c = nv (a.take i) * 2 ^ k) (hfit : nv a * 2 ^ k < BB ^ n) (hl : i + 1 ≤ a.length) :
    nv (c.set i (y + x * 2 ^ k % 4294967296)) = nv (a.take (i + 1)) * 2 ^ k := by
  have e1 := nv_set (c := c) (i := i) (x := y) (v := y + x * 2 ^ k % 4294967296) hc
  have hle : nv (a.take (i + 1)) ≤ nv a := by rw [nv_split a (i + 1) hl]; omega
  have h2 := Nat.mul_le_mul_right (2 ^ k) hle
  have h3 : BB ^ i * x * 2 ^ k < BB ^ (i + 1) := by
    rw [nv_take_succ ha, Nat.add_mul] at h2
    rw [hi]; omega
  have h4 : x * 2 ^ k < 4294967296 := by
    rw [Nat.mul_assoc, Nat.pow_succ] at h3
    exact Nat.lt_of_mul_lt_mul_left h3
  rw [Nat.mod_eq_of_lt h4] at e1 ⊢
  rw [nv_take_succ ha, Nat.add_mul, ← hv, Nat.mul_assoc]
  rw [Nat.mul_add] at e1
  omega

/-! the guess of a digit -/
theorem kn_exp (t b1 b2 : Nat) : t * (b1 * 4294967296 + b2) = t * b1 * 4294967296 + t * b2 := by rw [Nat.mul_add, Nat.mul_assoc]
theorem kn_init {u b1 b2 low t : Nat} (hlow : low < 4294967296) (hb : 0 < b1) (h : t * (b1 * 4294967296 + b2) ≤ u * 4294967296 + low) : t ≤ u / b1 := by
  rw [kn_exp] at h
  rw [Nat.le_div_iff_mul_le hb]
  omega
theorem kn_dec {u b1 b2 low t q r : Nat} (hq : q * b1 + r = u) (ht : t < 4294967296) (h : t * (b1 * 4294967296 + b2) ≤ u * 4294967296 + low) (hle : t ≤ q) (hc : 4294967296 ≤ q ∨ r * 4294967296 + low < q * b2) : t ≤ q - 1 := by
  rcases hc with hc | hc
  · omega
  · have : t ≠ q := fun e => by
      subst e
      rw [kn_exp] at h
      omega
    omega
theorem kn_ok {u b1 b2 low q r : Nat} (hq : q * b1 + r = u) (h : q * b2 ≤ r * 4294967296 + low) : q * (b1 * 4294967296 + b2) ≤ u * 4294967296 + low := by
  rw [kn_exp]; omega
theorem kn_step {b1 q r u : Nat} (hq : q * b1 + r = u) (h : 0 < q) : (q - 1) * b1 + (r + b1) = u := by
  obtain ⟨k, rfl⟩ : ∃ k, q = k + 1 := ⟨q - 1, by omega⟩
  rw [Nat.add_mul, Nat.one_mul] at hq
  rw [Nat.add_sub_cancel]
  omega

/-! bits -/
def bl (y : Nat) : Nat := if y = 0 then 0 else Nat.log2 y + 1
theorem bl_spec {y s x : Nat} (hy : y = x / 2 ^ s) (hne : y ≠ 0) : 2 ^ (s + bl y - 1) ≤ x ∧ x < 2 ^ (s + bl y) ∧ 1 ≤ bl y := by
  have e : bl y = Nat.log2 y + 1 := if_neg hne
  have h1 := Nat.log2_self_le hne
  have h2 := Nat.lt_log2_self (n := y)
  rw [e]
  refine ⟨?_, ?_, by omega⟩
  · rw [show s + (Nat.log2 y + 1) - 1 = Nat.log2 y + s by omega, Nat.pow_add]
    rw [hy] at h1 ⊢
    exact (Nat.le_div_iff_mul_le (Nat.pow_pos (by decide))).1 h1
  · rw [Nat.add_comm s, Nat.pow_add]
    rw [hy] at h2 ⊢
    exact (Nat.div_lt_iff_lt_mul (Nat.pow_pos (by decide))).1 h2
theorem bl_le {y : Nat} (h : y < 256) : bl y ≤ 8 := by
  unfold bl
  split
  · omega
  · rename_i hne
    have h1 := Nat.log2_self_le hne
    have : Nat.log2 y < 8 := by
      refine Nat.lt_of_not_le fun hh => ?_
      have := Nat.pow_le_pow_right (show 0 < 2 by decide) hh
      omega
    omega

/-! windows -/
theorem win_get {pre c post : List Nat} {i : Nat} (h : i < c.length) : (pre ++ (c ++ post))[pre.length + i]? = c[i]? := by
  rw [List.getElem?_append_right (by omega), Nat.add_sub_cancel_left, List.getElem?_append_left h]
theorem win_set {pre c post : List Nat} {i v : Nat} (h : i < c.length) : (pre ++ (c ++ post)).set (pre.length + i) v = pre ++ (c.set i v ++ post) := by
  rw [List.set_append_right _ _ (by omega), Nat.add_sub_cancel_left, List.set_append_left _ _ h]
/-- a multiple of a digit taken away -/
theorem takes_step {c w d : List Nat} {i x v q cr bo g bo' : Nat} (hc : i < c.length) (hw : w[i]? = some x) (hd : d[i]? = some v) (hg : g + ((cr + q * v) % 4294967296 + bo) = x + 4294967296 * bo')
    (hv : nv (c.take i) + q * nv (d.take i) = nv (w.take i) + BB ^ i * (cr + bo)) : nv ((c.set i g).take (i + 1)) + q * nv (d.take (i + 1)) = nv (w.take (i + 1)) + BB ^ (i + 1) * ((cr + q * v) / 4294967296 + bo') := by
  rw [nv_set_take hc, nv_take_succ hw, nv_take_succ hd, Nat.mul_add, Nat.mul_left_comm q]
  have e : BB ^ i * g + BB ^ i * (q * v) + BB ^ i * (cr + bo) = BB ^ i * x + BB ^ (i + 1) * ((cr + q * v) / 4294967296 + bo') + BB ^ i * (cr + bo) - BB ^ i * (cr + bo) := by
    rw [Nat.add_sub_cancel, Nat.pow_succ, Nat.mul_assoc, ← Nat.mul_add, ← Nat.mul_add, ← Nat.mul_add]
    congr 1
    rw [BB_eq]; omega
  omega
theorem takes_last {c w d : List Nat} {n x q cr bo g bo' : Nat} (hc : c.length = n + 1) (hwl : w.length = n + 1) (hdl : d.length = n) (hw : w[n]? = some x) (hg : g + (cr + bo) = x + 4294967296 * bo')
    (hv : nv (c.take n) + q * nv (d.take n) = nv (w.take n) + BB ^ n * (cr + bo)) : nv (c.set n g) + q * nv d = nv w + BB ^ (n + 1) * bo' := by
  have e1 : nv (c.set n g) = nv (c.take n) + BB ^ n * g := by
    rw [← nv_take_all (c := c.set n g) (n := n + 1) (by simp; omega), nv_set_take (by omega)]
  have e2 : nv w = nv (w.take n) + BB ^ n * x := by rw [← nv_take_all (c := w) (n := n + 1) (by omega), nv_take_succ hw]
  rw [nv_take_all (c := d) (by omega)] at hv
  have e3 : BB ^ n * g + BB ^ n * (cr + bo) = BB ^ n * x + BB ^ (n + 1) * bo' := by
    rw [Nat.pow_succ, Nat.mul_assoc, ← Nat.mul_add, ← Nat.mul_add]
    congr 1
  omega
theorem add_step {e c d : List Nat} {i x v mo : Nat} (he : i < e.length) (hc : c[i]? = some x) (hd : d[i]? = some v) (hv : nv (e.take i) + BB ^ i * mo = nv (c.take i) + nv (d.take i)) :
    nv ((e.set i ((x + v + mo) % 4294967296)).take (i + 1)) + BB ^ (i + 1) * ((x + v + mo) / 4294967296) = nv (c.take (i + 1)) + nv (d.take (i + 1)) := by
  refine put_carry he ?_
  rw [nv_take_succ hc, nv_take_succ hd, Nat.mul_add, Nat.mul_add]
  omega
theorem add_last {e c d : List Nat} {n x mo : Nat} (he : e.length = n + 1) (hcl : c.length = n + 1) (hdl : d.length = n) (hc : c[n]? = some x) (hv : nv (e.take n) + BB ^ n * mo = nv (c.take n) + nv (d.take n)) :
    nv (e.set n ((x + mo) % 4294967296)) + BB ^ (n + 1) * ((x + mo) / 4294967296) = nv c + nv d := by
  have e1 := put_carry (c := e) (i := n) (s := x + mo) (t := nv c + nv d) (by omega) (by
    rw [← nv_take_all (c := c) (n := n + 1) (by omega), nv_take_succ hc, Nat.mul_add]
    rw [nv_take_all (c := d) (by omega)] at hv
    omega)
  rw [nv_take_all (by simp; omega)] at e1
  exact e1
/-- the end of it: nothing is owed -/
theorem takes_no {W C D q : Nat} (hv : C + q * D = W) (h2 : W < (q + 1) * D) : C < D ∧ W = C + q * D := by
  rw [Nat.add_mul, Nat.one_mul] at h2
  omega
/-- .. or one is given back -/
theorem takes_yes {W C D q F k P : Nat} (hv : C + q * D = W + P) (h1 : q * D ≤ W + D) (hC : C < P) (hF : F < P) (hk : k ≤ 1) (he : F + P * k = C + D) : 1 ≤ q ∧ F < D ∧ W = F + (q - 1) * D := by
  have hq : q ≠ 0 := fun e => by subst e; omega
  obtain ⟨t, rfl⟩ : ∃ t, q = t + 1 := ⟨q - 1, by omega⟩
  rw [Nat.add_mul, Nat.one_mul] at hv h1
  have : k = 1 := by
    rcases Nat.le_one_iff_eq_zero_or_eq_one.1 hk with h | h
    · subst h; omega
    · exact h
  subst this
  rw [Nat.add_sub_cancel]
  omega

/-! shifts back -/
theorem shr_exact {X v i k : Nat} (hk : k ≤ 31) (hi : 0 < i) : (X + BB ^ i * v) / 2 ^ k = X / 2 ^ k + BB ^ (i - 1) * (v * 2 ^ (32 - k)) := by
  have e : BB ^ i * v = 2 ^ k * (BB ^ (i - 1) * (v * 2 ^ (32 - k))) := by
    have e2 : BB = 2 ^ k * 2 ^ (32 - k) := by rw [← Nat.pow_add, show k + (32 - k) = 32 by omega]; rfl
    have e3 : BB ^ i = BB ^ (i - 1) * BB := by rw [← Nat.pow_succ, show (i - 1).succ = i by omega]
    rw [e3]
    conv => lhs; rw [e2]
    rw [← e2, Nat.mul_comm v, Nat.mul_assoc, Nat.mul_left_comm (2 ^ k), ← Nat.mul_assoc (2 ^ k), ← e2]
  rw [e, Nat.add_mul_div_left _ _ (Nat.pow_pos (by decide))]
/-- a limb shifted in from above -/
theorem right_step {A c : List Nat} {i k v y : Nat} (hk : k ≤ 31) (hi : 0 < i) (ha : A[i]? = some v) (hc : c[i - 1]? = some y) (hz : c[i]? = some 0) (hv : nv c = nv (A.take i) / 2 ^ k) :
    nv ((c.set i (v / 2 ^ k)).set (i - 1) (y + v * 2 ^ (32 - k) % 4294967296)) = nv (A.take (i + 1)) / 2 ^ k := by
  have e1 := nv_set (v := v / 2 ^ k) hz
  have hc2 : (c.set i (v / 2 ^ k))[i - 1]? = some y := by rw [List.getElem?_set_ne (by omega)]; exact hc
  have e2 := nv_set (v := y + v * 2 ^ (32 - k) % 4294967296) hc2
  rw [Nat.mul_zero, Nat.add_zero] at e1
  rw [nv_take_succ ha, shr_exact hk hi, ← hv]
  have e3 : v * 2 ^ (32 - k) / 4294967296 = v / 2 ^ k := by
    have : 4294967296 = 2 ^ k * 2 ^ (32 - k) := by rw [← Nat.pow_add, show k + (32 - k) = 32 by omega]
    rw [this, Nat.mul_div_mul_right _ _ (Nat.pow_pos (by decide))]
  have e4 : BB ^ (i - 1) * (v * 2 ^ (32 - k)) = BB ^ (i - 1) * (v * 2 ^ (32 - k) % 4294967296) + BB ^ i * (v / 2 ^ k) := by
    have e5 : BB ^ i = BB ^ (i - 1) * BB := by rw [← Nat.pow_succ, show (i - 1).succ = i by omega]
    rw [e5, Nat.mul_assoc, ← Nat.mul_add, ← e3]
    congr 1
    rw [BB_eq]; omega
  rw [e4]
  rw [Nat.mul_add] at e2
  omega
theorem right_first {A c : List Nat} {k v : Nat} (ha : A[0]? = some v) (hz : c[0]? = some 0) (hv : nv c = 0) : nv (c.set 0 (v / 2 ^ k)) = nv (A.take 1) / 2 ^ k := by
  have e1 := nv_set (v := v / 2 ^ k) hz
  rw [hv] at e1
  have e2 := nv_take_succ ha
  simp [nv] at e1 e2
  rw [e2, e1]

/-! division, limb by limb -/
theorem kn_guess {W W3 D d2 lw ld P x : Nat} (hW : W = lw + P * W3) (hlw : lw < P) (hD : D = ld + P * d2) (hld : ld < P) (hd2 : 4294967296 ≤ d2) (hx : x ≤ 4294967296) (h1 : x * d2 ≤ W3) (h2 : ∀ t, t < 4294967296 → t * d2 ≤ W3 → t ≤ x) (hB : W < 4294967296 * D) :
    x * D ≤ W + D ∧ W < (x + 1) * D := by
  have hP : 0 < P := by omega
  have hDpos : 0 < D := by
    rw [hD]
    have := Nat.mul_le_mul hP hd2
    omega
  constructor
  · by_cases hx0 : x = 0
    · subst hx0; omega
    · obtain ⟨y, rfl⟩ : ∃ y, x = y + 1 := ⟨x - 1, by omega⟩
      have e1 : (y + 1) * D = y * D + D := by rw [Nat.add_mul, Nat.one_mul]
      have e2 : y * (ld + 1) ≤ 4294967295 * P := Nat.mul_le_mul (by omega) hld
      have e3 : y * D ≤ P * W3 := by
        have e4 : (y + 1) * d2 = y * d2 + d2 := by rw [Nat.add_mul, Nat.one_mul]
        have e5 : P * (y * d2 + 4294967295) ≤ P * W3 := Nat.mul_le_mul_left _ (by omega)
        have e6 : y * D = y * ld + P * (y * d2) := by rw [hD, Nat.mul_add, Nat.mul_left_comm]
        have e7 : y * ld ≤ y * (ld + 1) := Nat.mul_le_mul_left _ (by omega)
        rw [Nat.mul_add] at e5
        omega
      omega
  · have ht := Nat.div_mul_le_self W D
    have hlt := Nat.lt_div_mul_add (a := W) hDpos
    have ht2 : W / D < 4294967296 := (Nat.div_lt_iff_lt_mul hDpos).2 hB
    generalize W / D = t at *
    have ht3 : t * d2 ≤ W3 := by
      have e6 : t * D = t * ld + P * (t * d2) := by rw [hD, Nat.mul_add, Nat.mul_left_comm]
      have : P * (t * d2) < P * (W3 + 1) := by rw [Nat.mul_add, Nat.mul_one]; omega
      exact Nat.lt_succ_iff.1 (Nat.lt_of_mul_lt_mul_left this)
    have ht4 := Nat.mul_le_mul_right D (h2 t ht2 ht3)
    rw [Nat.add_mul, Nat.one_mul]
    omega
theorem top3 {w : List Nat} {e hi mid low : Nat} (hl : w.length = e + 3) (h1 : w[e + 2]? = some hi) (h2 : w[e + 1]? = some mid) (h3 : w[e]? = some low) : nv w = nv (w.take e) + BB ^ e * ((hi * 4294967296 + mid) * 4294967296 + low) := by
  have e0 : nv w = nv (w.take (e + 2 + 1)) := (nv_take_all (by omega)).symm
  rw [e0, nv_take_succ h1, nv_take_succ h2, nv_take_succ h3, Nat.pow_add, Nat.pow_add, Nat.add_assoc, Nat.add_assoc, Nat.mul_assoc, Nat.mul_assoc, ← Nat.mul_add, ← Nat.mul_add]
  congr 2
  show low + (BB ^ 1 * mid + BB ^ 2 * hi) = _
  have : BB ^ 2 = BB * BB := by rw [Nat.pow_succ, Nat.pow_one]
  rw [this, Nat.pow_one, BB_eq]
  omega
theorem top2 {w : List Nat} {e b1 b2 : Nat} (hl : w.length = e + 2) (h1 : w[e + 1]? = some b1) (h2 : w[e]? = some b2) : nv w = nv (w.take e) + BB ^ e * (b1 * 4294967296 + b2) := by
  have e0 : nv w = nv (w.take (e + 1 + 1)) := (nv_take_all (by omega)).symm
  rw [e0, nv_take_succ h1, nv_take_succ h2, Nat.pow_succ, Nat.add_assoc, Nat.mul_assoc, ← Nat.mul_add]
  congr 2
  rw [BB_eq]; omega
/-- the window of a step -/
theorem long_win {U : List Nat} {D i n la : Nat} (hoU : Ok U) (hU : U.length = la + 1) (hin : i + n ≤ la) (hD : D < BB ^ n) (hv : nv (U.drop (i + 1)) < D) :
    nv (U.drop (i + (n + 1))) = 0 ∧ nv (U.drop i) = nv ((U.drop i).take (n + 1)) ∧ nv (U.drop i) < 4294967296 * D := by
  have e1 := nv_split (U.drop (i + 1)) n (by rw [List.length_drop]; omega)
  rw [List.drop_drop] at e1
  have h0 : nv (U.drop (i + (n + 1))) = 0 := by
    have e2 : i + 1 + n = i + (n + 1) := by omega
    rw [e2] at e1
    refine Nat.eq_zero_of_not_pos fun hp => ?_
    have := Nat.mul_le_mul_left (BB ^ n) (show 1 ≤ nv (U.drop (i + (n + 1))) from hp)
    omega
  have e3 := nv_split (U.drop i) (n + 1) (by rw [List.length_drop]; omega)
  rw [List.drop_drop, h0, Nat.mul_zero, Nat.add_zero] at e3
  refine ⟨h0, e3, ?_⟩
  obtain ⟨x, hx⟩ : ∃ x, U[i]? = some x := ⟨_, List.getElem?_eq_getElem (by omega)⟩
  rw [nv_drop hx, BB_eq]
  have := hoU.get hx
  rw [BB_eq] at this
  omega
theorem kn_hu {u low c1 c2 : Nat} (h : u * 4294967296 + low < 4294967296 * (c1 * 4294967296 + c2 + 1)) (hc2 : c2 < 4294967296) : u ≤ 4294967296 * c1 + 4294967295 := by omega
end Go.Ab
/- Arithmetic of the interpreter's numbers; rows of limbs. -/
namespace Go.Ab

theorem wrapI {z : Int} (h1 : -9223372036854775808 ≤ z) (h2 : z < 9223372036854775808) : IntKind.i64.wrap z = z := by
  have e1 : (2 : Int) ^ 64 = 18446744073709551616 := by decide
  have e2 : (2 : Int) ^ 63 = 9223372036854775808 := by decide
  simp only [IntKind.wrap, IntKind.signed, IntKind.bits, e1, e2, Bool.true_and, decide_eq_true_eq, ge_iff_le, Nat.add_one_sub_one]
  split <;> omega
theorem wrapU64 {n : Nat} : IntKind.u64.wrap (n : Int) = ((n % 18446744073709551616 : Nat) : Int) := by
  have e1 : (2 : Int) ^ 64 = 18446744073709551616 := by decide
  simp only [IntKind.wrap, IntKind.signed, IntKind.bits, e1, Bool.false_and]
  simp
theorem wrapU32 {n : Nat} : IntKind.u32.wrap (n : Int) = ((n % 4294967296 : Nat) : Int) := by
  have e1 : (2 : Int) ^ 32 = 4294967296 := by decide
  simp only [IntKind.wrap, IntKind.signed, IntKind.bits, e1, Bool.false_and]
  simp
theorem wrapU64z {z : Int} : IntKind.u64.wrap z = z % 18446744073709551616 := by
  have e1 : (2 : Int) ^ 64 = 18446744073709551616 := by decide
  simp only [IntKind.wrap, IntKind.signed, IntKind.bits, e1, Bool.false_and]
  simp
theorem wrapU32z {z : Int} : IntKind.u32.wrap z = z % 4294967296 := by
  have e1 : (2 : Int) ^ 32 = 4294967296 := by decide
  simp only [IntKind.wrap, IntKind.signed, IntKind.bits, e1, Bool.false_and]
  simp

theorem intLt_d (a b : Int) : intLt a b = decide (a < b) := by
  cases a with
  | ofNat m => cases b with
    | ofNat n =>
      show Nat.blt m n = _
      cases h : Nat.blt m n with
      | true => simp [Nat.blt] at h; exact (decide_eq_true (show (m : Int) < (n : Int) by omega)).symm
      | false =>
        have : ¬ m < n := fun hh => by
          have : Nat.blt m n = true := by simp [Nat.blt]; omega
          rw [h] at this; cases this
        exact (decide_eq_false (show ¬ (m : Int) < (n : Int) by omega)).symm
    | negSucc n => exact (decide_eq_false (show ¬ (m : Int) < Int.negSucc n by omega)).symm
  | negSucc m => cases b with
    | ofNat n => exact (decide_eq_true (show Int.negSucc m < (n : Int) by omega)).symm
    | negSucc n =>
      show Nat.blt n m = _
      cases h : Nat.blt n m with
      | true => simp [Nat.blt] at h; exact (decide_eq_true (show Int.negSucc m < Int.negSucc n by omega)).symm
      | false =>
        have : ¬ n < m := fun hh => by
          have : Nat.blt n m = true := by simp [Nat.blt]; omega
          rw [h] at this; cases this
        exact (decide_eq_false (show ¬ Int.negSucc m < Int.negSucc n by omega)).symm
theorem intEq_d (a b : Int) : intEq a b = decide (a = b) := by
  rw [intEq_eq]; rfl
theorem not_lt_d (a b : Int) : (!decide (a < b)) = decide (b ≤ a) := by
  rw [← decide_not]
  exact decide_eq_decide.2 Int.not_lt

section
variable {K : Option TI} {cst : Bool}
theorem b_lss {k : IntKind} {a b : Int} : bin2 K cst .lss (.int k a) (.int k b) = some (.bool (decide (a < b))) := by cases k <;> simp [bin2, kindNo, binI, intLt_d]
theorem b_geq {k : IntKind} {a b : Int} : bin2 K cst .geq (.int k a) (.int k b) = some (.bool (decide (b ≤ a))) := by
  rw [← not_lt_d]
  cases k <;> simp only [bin2, kindNo, binI, intLt_d] <;> rfl
theorem b_gtr {k : IntKind} {a b : Int} : bin2 K cst .gtr (.int k a) (.int k b) = some (.bool (decide (b < a))) := by cases k <;> simp [bin2, kindNo, binI, intLt_d]
theorem b_leq {k : IntKind} {a b : Int} : bin2 K cst .leq (.int k a) (.int k b) = some (.bool (decide (a ≤ b))) := by
  rw [← not_lt_d]
  cases k <;> simp only [bin2, kindNo, binI, intLt_d] <;> rfl
theorem b_eql {k : IntKind} {a b : Int} : bin2 K cst .eql (.int k a) (.int k b) = some (.bool (decide (a = b))) := by cases k <;> simp [bin2, kindNo, binI, intEq_d]
theorem b_neq {k : IntKind} {a b : Int} : bin2 K cst .neq (.int k a) (.int k b) = some (.bool (!decide (a = b))) := by cases k <;> simp [bin2, kindNo, binI, intEq_d]
theorem b_addI {a b : Int} (h1 : -9223372036854775808 ≤ a + b) (h2 : a + b < 9223372036854775808) : bin2 K cst .add (.int .i64 a) (.int .i64 b) = some (.int .i64 (a + b)) := by
  simp only [bin2, kindNo, binI, wrapI h1 h2]; rfl
theorem b_subI {a b : Int} (h1 : -9223372036854775808 ≤ a - b) (h2 : a - b < 9223372036854775808) : bin2 K cst .sub (.int .i64 a) (.int .i64 b) = some (.int .i64 (a - b)) := by
  simp only [bin2, kindNo, binI, wrapI h1 h2]; rfl
theorem b_mulI {a b : Int} (h1 : -9223372036854775808 ≤ a * b) (h2 : a * b < 9223372036854775808) : bin2 K cst .mul (.int .i64 a) (.int .i64 b) = some (.int .i64 (a * b)) := by
  simp only [bin2, kindNo, binI, wrapI h1 h2]; rfl
theorem b_addU {a b : Nat} (h : a + b < 18446744073709551616) : bin2 K cst .add (.int .u64 (a : Int)) (.int .u64 (b : Int)) = some (.int .u64 ((a + b : Nat) : Int)) := by
  simp only [bin2, kindNo, binI, ← Int.natCast_add, wrapU64, Nat.mod_eq_of_lt h]; rfl
theorem b_mulU {a b : Nat} (h : a * b < 18446744073709551616) : bin2 K cst .mul (.int .u64 (a : Int)) (.int .u64 (b : Int)) = some (.int .u64 ((a * b : Nat) : Int)) := by
  simp only [bin2, kindNo, binI, ← Int.natCast_mul, wrapU64, Nat.mod_eq_of_lt h]; rfl
theorem b_subU {a b : Nat} (h : b ≤ a) (h2 : a < 18446744073709551616) : bin2 K cst .sub (.int .u64 (a : Int)) (.int .u64 (b : Int)) = some (.int .u64 ((a - b : Nat) : Int)) := by
  have e : (a : Int) - (b : Int) = ((a - b : Nat) : Int) := by omega
  simp only [bin2, kindNo, binI, e, wrapU64]
  rw [Nat.mod_eq_of_lt (by omega)]; rfl
theorem b_subU1 {a : Nat} (h : 1 ≤ a) (h2 : a < 18446744073709551616) : bin2 K cst .sub (.int .u64 (a : Int)) (.int .u64 1) = some (.int .u64 ((a - 1 : Nat) : Int)) := b_subU (b := 1) h h2
theorem b_shrU {k : IntKind} {a n : Nat} (h : n ≤ k.bits) : bin2 K cst .shr (.int k (a : Int)) (.int .u64 (n : Int)) = some (.int k ((a / 2 ^ n : Nat) : Int)) := by
  show some (PV.int k ((a : Int).fdiv (2 ^ Nat.min n k.bits))) = _
  have e : Nat.min n k.bits = n := Nat.min_eq_left h
  rw [e]
  have : ((2 : Int) ^ n) = ((2 ^ n : Nat) : Int) := by simp
  rw [this, Int.fdiv_eq_ediv_of_nonneg _ (Int.natCast_nonneg _)]
  rfl
theorem b_shlU {a n : Nat} (h : n ≤ 64) : bin2 K cst .shl (.int .u64 (a : Int)) (.int .u64 (n : Int)) = some (.int .u64 ((a * 2 ^ n % 18446744073709551616 : Nat) : Int)) := by
  show some (PV.int .u64 (IntKind.u64.wrap ((a : Int) * 2 ^ Nat.min n 64))) = _
  have e : Nat.min n 64 = n := Nat.min_eq_left h
  rw [e]
  have : (a : Int) * (2 : Int) ^ n = ((a * 2 ^ n : Nat) : Int) := by simp
  rw [this, wrapU64]
theorem low64 {n : Nat} (h : n < 18446744073709551616) : low .u64 (n : Int) = n := by
  have e1 : (2 : Int) ^ 64 = 18446744073709551616 := by decide
  simp only [low, IntKind.bits, e1]
  omega
theorem low32 {n : Nat} (h : n < 4294967296) : low .u32 (n : Int) = n := by
  have e1 : (2 : Int) ^ 32 = 4294967296 := by decide
  simp only [low, IntKind.bits, e1]
  omega
theorem b_orU {a b : Nat} (ha : a < 18446744073709551616) (hb : b < 18446744073709551616) : bin2 K cst .or (.int .u64 (a : Int)) (.int .u64 (b : Int)) = some (.int .u64 ((a ||| b : Nat) : Int)) := by
  have h : a ||| b < 2 ^ 64 := Nat.or_lt_two_pow ha hb
  show some (PV.int .u64 (IntKind.u64.wrap (Int.ofNat (Nat.lor (low .u64 a) (low .u64 b))))) = _
  rw [low64 ha, low64 hb]
  show some (PV.int .u64 (IntKind.u64.wrap ((a ||| b : Nat) : Int))) = _
  rw [wrapU64, Nat.mod_eq_of_lt h]
theorem b_or32 {a b : Nat} (ha : a < 4294967296) (hb : b < 4294967296) : bin2 K cst .or (.int .u32 (a : Int)) (.int .u32 (b : Int)) = some (.int .u32 ((a ||| b : Nat) : Int)) := by
  have h : a ||| b < 2 ^ 32 := Nat.or_lt_two_pow ha hb
  show some (PV.int .u32 (IntKind.u32.wrap (Int.ofNat (Nat.lor (low .u32 a) (low .u32 b))))) = _
  rw [low32 ha, low32 hb]
  show some (PV.int .u32 (IntKind.u32.wrap ((a ||| b : Nat) : Int))) = _
  rw [wrapU32, Nat.mod_eq_of_lt h]
theorem b_and32 {a b : Nat} (ha : a < 4294967296) (hb : b < 4294967296) : bin2 K cst .and (.int .u32 (a : Int)) (.int .u32 (b : Int)) = some (.int .u32 ((a &&& b : Nat) : Int)) := by
  have h : a &&& b < 4294967296 := Nat.lt_of_le_of_lt Nat.and_le_left ha
  show some (PV.int .u32 (IntKind.u32.wrap (Int.ofNat (Nat.land (low .u32 a) (low .u32 b))))) = _
  rw [low32 ha, low32 hb]
  show some (PV.int .u32 (IntKind.u32.wrap ((a &&& b : Nat) : Int))) = _
  rw [wrapU32, Nat.mod_eq_of_lt h]
theorem b_xor32 {a b : Nat} (ha : a < 4294967296) (hb : b < 4294967296) : bin2 K cst .xor (.int .u32 (a : Int)) (.int .u32 (b : Int)) = some (.int .u32 ((a ^^^ b : Nat) : Int)) := by
  have h : a ^^^ b < 2 ^ 32 := Nat.xor_lt_two_pow ha hb
  show some (PV.int .u32 (IntKind.u32.wrap (Int.ofNat (Nat.xor (low .u32 a) (low .u32 b))))) = _
  rw [low32 ha, low32 hb]
  show some (PV.int .u32 (IntKind.u32.wrap ((a ^^^ b : Nat) : Int))) = _
  rw [wrapU32, Nat.mod_eq_of_lt h]
theorem u_xor32 {a : Nat} (ha : a < 4294967296) : pUn .xor (some (.int .u32 (a : Int))) = some (.int .u32 ((4294967295 ^^^ a : Nat) : Int)) := by
  have h : 4294967295 ^^^ a < 2 ^ 32 := Nat.xor_lt_two_pow (by decide) ha
  show some (PV.int .u32 (IntKind.u32.wrap (Int.ofNat (Nat.xor (low .u32 ((4294967295 : Nat) : Int)) (low .u32 a))))) = _
  rw [low32 (by decide), low32 ha]
  show some (PV.int .u32 (IntKind.u32.wrap ((4294967295 ^^^ a : Nat) : Int))) = _
  rw [wrapU32, Nat.mod_eq_of_lt h]
theorem b_sub32 {a b : Nat} (hb : b ≤ 4294967296) : bin2 K cst .sub (.int .u32 (a : Int)) (.int .u32 (b : Int)) = some (.int .u32 (((a + (4294967296 - b)) % 4294967296 : Nat) : Int)) := by
  show some (PV.int .u32 (IntKind.u32.wrap ((a : Int) - (b : Int)))) = _
  rw [wrapU32z]
  congr 2
  omega
theorem b_add32 {a b : Nat} : bin2 K cst .add (.int .u32 (a : Int)) (.int .u32 (b : Int)) = some (.int .u32 (((a + b) % 4294967296 : Nat) : Int)) := by
  show some (PV.int .u32 (IntKind.u32.wrap ((a : Int) + (b : Int)))) = _
  rw [wrapU32z]
  congr 2
theorem b_quoU {a b : Nat} (ha : a < 18446744073709551616) (hb : b ≠ 0) : bin2 K cst .quo (.int .u64 (a : Int)) (.int .u64 (b : Int)) = some (.int .u64 ((a / b : Nat) : Int)) := by
  show (bif intEq (b : Int) 0 then none else some (PV.int .u64 (IntKind.u64.wrap ((a : Int).tdiv b)))) = _
  have e : intEq (b : Int) 0 = false := by rw [intEq_d]; exact decide_eq_false (by omega)
  rw [e]
  simp only [cond_false]
  rw [show (a : Int).tdiv (b : Int) = ((a / b : Nat) : Int) from rfl, wrapU64, Nat.mod_eq_of_lt (Nat.lt_of_le_of_lt (Nat.div_le_self _ _) ha)]
theorem b_remU {a b : Nat} (hb : b ≠ 0) : bin2 K cst .rem (.int .u64 (a : Int)) (.int .u64 (b : Int)) = some (.int .u64 ((a % b : Nat) : Int)) := by
  show (bif intEq (b : Int) 0 then none else some (PV.int .u64 ((a : Int).tmod b))) = _
  have e : intEq (b : Int) 0 = false := by rw [intEq_d]; exact decide_eq_false (by omega)
  rw [e]
  rfl
theorem or_hi {a b : Nat} (hb : b < 4294967296) : a * 2 ^ 32 ||| b = a * 4294967296 + b := by
  have := Nat.two_pow_add_eq_or_of_lt (i := 32) hb a
  rw [Nat.mul_comm a, ← this]
theorem u_not {a : Bool} : pUn .not (some (.bool a)) = some (.bool !a) := rfl
theorem c_64 {s : TK} {a : Nat} {k : IntKind} (h : a < 18446744073709551616) : pConv s (.int .u64) (some (.int k (a : Int))) = some (.int .u64 (a : Int)) := by
  simp only [pConv, wrapU64, Nat.mod_eq_of_lt h]
theorem c_5 {s : TK} {a : Nat} {k : IntKind} : pConv s (.int .u8) (some (.int k (a : Int))) = some (.int .u8 ((a % 256 : Nat) : Int)) := by
  have e1 : (2 : Int) ^ 8 = 256 := by decide
  simp only [pConv, IntKind.wrap, IntKind.signed, IntKind.bits, e1, Bool.false_and]
  simp
theorem c_i {s : TK} {a : Nat} {k : IntKind} (h : a < 9223372036854775808) : pConv s (.int .i64) (some (.int k (a : Int))) = some (.int .i64 (a : Int)) := by
  simp only [pConv]
  rw [wrapI (by omega) (by omega)]
theorem c_32 {s : TK} {a : Nat} {k : IntKind} : pConv s (.int .u32) (some (.int k (a : Int))) = some (.int .u32 ((a % 4294967296 : Nat) : Int)) := by
  simp only [pConv, wrapU32]
end

theorem gOk {tm : Tr PV} {all : List Oper} {j d : Nat} {w b r : Bool} {oj : Oper} (hj : nthN all j = some oj) (hd : oj.dst = some d) (ht : tm.get d = some (.bool b)) (hw : (bif w then b else !b) = r) : guardOk tm all (some (j, w)) = some r := by
  simp only [guardOk, hj, hd, ht, hw]

/-! ### rows of limbs -/
def cu (a : List Nat) : List PV := a.map fun (n : Nat) => PV.int .u32 (n : Int)
/-- a row of limbs as a value -/
def Lim (a : List Nat) (p : PV) : Prop := (a = [] ∧ p = .nils) ∨ ∃ cp, p = .vsl (cu a) a.length cp
theorem cu_length {a : List Nat} : (cu a).length = a.length := by simp [cu]
theorem cu_get {a : List Nat} {i : Nat} : (cu a)[i]? = (a[i]?).map fun (n : Nat) => PV.int .u32 (n : Int) := by simp [cu]
theorem cu_flats {a : List Nat} : flats (cu a) = true := flats_of fun x hx => by
  simp only [cu, List.mem_map] at hx
  obtain ⟨n, _, rfl⟩ := hx; rfl
theorem cellsOk_cu {a : List Nat} : cellsOk (cu a) = true := by
  induction a with
  | nil => rfl
  | cons x a ih => exact ih
theorem Lim.flat {a : List Nat} {p : PV} (h : Lim a p) : flat p = true := by
  rcases h with ⟨_, rfl⟩ | ⟨cp, rfl⟩ <;> rfl
theorem flats1 {p : PV} (h : flat p = true) : flats [p] = true := by simp [flats, h]
theorem flats2 {p q : PV} (h : flat p = true) (h' : flat q = true) : flats [p, q] = true := by simp [flats, h, h']
theorem flats3 {p q r : PV} (h : flat p = true) (h' : flat q = true) (h'' : flat r = true) : flats [p, q, r] = true := by simp [flats, h, h', h'']
theorem cu_take {a : List Nat} {n : Nat} : cu (a.take n) = (cu a).take n := by simp [cu]
theorem cu_drop {a : List Nat} {n : Nat} : cu (a.drop n) = (cu a).drop n := by simp [cu]

/-- 'len' -/
theorem len_lim {E : Env} {t : Nat} {es eb : Nat} {ez : Option (List PV)} {sz esz : Nat} {z : Option (List PV)} (ht : E.ty t = some ⟨.slice es esz eb ez, sz, z⟩) {a : List Nat} {p : PV} (h : Lim a p) : pBuiltin E .len (#[t] : Array TypeId).toList (some [p]) = some (.int .i64 (a.length : Int)) := by
  rcases h with ⟨rfl, rfl⟩ | ⟨cp, rfl⟩ <;> simp [pBuiltin, tyOf, ht, pLen]
theorem len_msl {E : Env} {t : Nat} {es eb : Nat} {ez : Option (List PV)} {sz esz : Nat} {z : Option (List PV)} (ht : E.ty t = some ⟨.slice es esz eb ez, sz, z⟩) {b g off n s : Nat} : pBuiltin E .len (#[t] : Array TypeId).toList (some [.msl b g off n s]) = some (.int .i64 (n : Int)) := by
  simp [pBuiltin, tyOf, ht, pLen]
/-- the address of a limb, and what lies there -/
theorem ia_lim {t : Option TI} {e eb : Nat} {ez z : Option (List PV)} {sz : Nat} (ht : t = some ⟨.slice e 1 eb ez, sz, z⟩) {a : List Nat} {p : PV} (h : Lim a p) {i : Nat} (hi : i < a.length) {k : IntKind} : pIA t (some p) (some (.int k (i : Int))) = some (.vptr ((cu a).drop i)) := by
  subst ht
  rcases h with ⟨rfl, rfl⟩ | ⟨cp, rfl⟩
  · simp at hi
  · have e1 : idx (i : Int) a.length = some i := by
      show (bif Nat.blt i a.length then some i else none) = _
      have : Nat.blt i a.length = true := by simp [Nat.blt]; omega
      rw [this]; rfl
    have e2 : Nat.ble (Nat.mul (Nat.succ i) 1) (cu a).length = true := by
      rw [cu_length]
      simp only [Nat.mul_eq, Nat.mul_one, Nat.succ_eq_add_one]
      exact Nat.ble_eq_true_of_le hi
    simp only [pIA, e1, e2, cond_true]
    show some (PV.vptr ((cu a).drop (i * 1))) = _
    rw [Nat.mul_one]
theorem ld_lim {t : Option TI} {zz : Option (List PV)} (ht : t = some ⟨.int .u32, 1, zz⟩) {a : List Nat} {i : Nat} {x : Nat} (hx : a[i]? = some x) {m : PM} : mLoad t m (some (.vptr ((cu a).drop i))) = some (.int .u32 (x : Int), m) := by
  subst ht
  have hi : i < a.length := (List.getElem?_eq_some_iff.1 hx).1
  have hd : (cu a).drop i = .int .u32 (x : Int) :: (cu a).drop (i + 1) := by
    rw [List.drop_eq_getElem_cons (by rw [cu_length]; exact hi)]
    congr 1
    have := cu_get (a := a) (i := i)
    rw [hx, List.getElem?_eq_getElem (by rw [cu_length]; exact hi)] at this
    simpa using this
  have hl : ((cu a).drop i).length = a.length - i := by simp [cu_length]
  simp only [mLoad, ldCells]
  have : cutN ((cu a).drop i) 0 1 = some [PV.int .u32 (x : Int)] := by
    unfold cutN
    have e : Nat.ble (Nat.add 0 1) ((cu a).drop i).length = true := by rw [hl]; exact Nat.ble_eq_true_of_le (by show 0 + 1 ≤ _; omega)
    rw [e, hd]; rfl
  rw [this]
  rfl
/-! rows that are being written -/
theorem ia_msl {t : Option TI} {e eb : Nat} {ez z : Option (List PV)} {sz : Nat} (ht : t = some ⟨.slice e 1 eb ez, sz, z⟩) {b g off n : Nat} {i : Nat} (hi : i < n) {k : IntKind} : pIA t (some (.msl b g off n 1)) (some (.int k (i : Int))) = some (.ptr b g (off + i)) := by
  subst ht
  have e1 : idx (i : Int) n = some i := by
    show (bif Nat.blt i n then some i else none) = _
    have : Nat.blt i n = true := by simp [Nat.blt]; omega
    rw [this]; rfl
  simp only [pIA, e1]
  show some (PV.ptr b g (off + i * 1)) = _
  rw [Nat.mul_one]
theorem ld_msl {t : Option TI} {zz : Option (List PV)} (ht : t = some ⟨.int .u32, 1, zz⟩) {a : List Nat} {b g i x et : Nat} {frz : Bool} {m : PM} (hb : m.get b = some (.cells (cu a) g frz et)) (hx : a[i]? = some x) : mLoad t m (some (.ptr b g i)) = some (.int .u32 (x : Int), m) := by
  subst ht
  have hi : i < a.length := (List.getElem?_eq_some_iff.1 hx).1
  have hc : cutN (cu a) i 1 = some [PV.int .u32 (x : Int)] := by
    unfold cutN
    have e : Nat.ble (Nat.add i 1) (cu a).length = true := by rw [cu_length]; exact Nat.ble_eq_true_of_le hi
    rw [e]
    have hd : (cu a).drop i = .int .u32 (x : Int) :: (cu a).drop (i + 1) := by
      rw [List.drop_eq_getElem_cons (by rw [cu_length]; exact hi)]
      congr 1
      have := cu_get (a := a) (i := i)
      rw [hx, List.getElem?_eq_getElem (by rw [cu_length]; exact hi)] at this
      simpa using this
    rw [hd]; rfl
  have hg : Nat.beq g g = true := Nat.beq_refl g
  simp only [mLoad, ldCells, hb, hg, cond_true, hc]
  rfl
theorem st_msl {t : Option TI} {zz : Option (List PV)} (ht : t = some ⟨.int .u32, 1, zz⟩) {a : List Nat} {b g i x et : Nat} {m : PM} (hb : m.get b = some (.cells (cu a) g false et)) (hi : i < a.length) : mStore t m (some (.ptr b g i)) (some (.int .u32 (x : Int))) = some (undefPV, m.upd b (.cells (cu (a.set i x)) g false et)) := by
  subst ht
  have hg : Nat.beq g g = true := Nat.beq_refl g
  have hp : putN (cu a) i [PV.int .u32 (x : Int)] = some (cu (a.set i x)) := by
    unfold putN
    have e : Nat.ble (Nat.add i [PV.int .u32 (x : Int)].length) (cu a).length = true := by rw [cu_length]; exact Nat.ble_eq_true_of_le hi
    rw [e]
    simp only [cond_true]
    congr 1
    show _ = cu (a.set i x)
    unfold cu
    rw [List.map_set, List.set_eq_take_append_cons_drop, if_pos (by rw [List.length_map]; exact hi)]
    rfl
  simp only [mStore, hb, hg, Bool.true_and]
  have e : (Nat.beq (PV.int .u32 (x : Int)).cells.length 1 && cellsOk (PV.int .u32 (x : Int)).cells) = true := rfl
  rw [e]
  simp only [cond_true, PV.cells, hp]
/-- 'make' -/
theorem mk_msl {t : Option TI} {e : Nat} {z : Option (List PV)} {sz : Nat} (ht : t = some ⟨.slice e 1 4 (some [.int .u32 0]), sz, z⟩) {n : Nat} {k k' : IntKind} (hn : n ≤ 35184372088832) {m : PM} : mMakeSlice t m (some (.int k (n : Int))) (some (.int k' (n : Int))) = some (.msl m.next 0 0 n 1, m.new (.cells (cu (List.replicate n 0)) 0 false e)) := by
  subst ht
  have h1 : Nat.ble n n = true := Nat.ble_eq_true_of_le (Nat.le_refl _)
  have h2 : Nat.ble (Nat.mul n 4) 140737488355328 = true := Nat.ble_eq_true_of_le (by show n * 4 ≤ _; omega)
  have h3 : Nat.ble n maxStr = true := Nat.ble_eq_true_of_le (by unfold maxStr; omega)
  have h4 : repN [PV.int .u32 0] n = cu (List.replicate n 0) := by
    clear hn h1 h2 h3
    induction n with
    | zero => rfl
    | succ n ih => simp only [repN, ih, List.replicate_succ, cu, List.map_cons]; rfl
  show (bif Nat.ble n n && (Nat.ble (Nat.mul n 4) 140737488355328 && (Nat.ble n maxStr && !Nat.beq 1 0)) then some (PV.msl m.next 0 0 n 1, m.new (.cells (repN [PV.int .u32 0] n) 0 false e)) else none) = _
  rw [h1, h2, h3, h4]
  rfl
/-- a row that was written is read as one -/
theorem reify_msl {d : Nat} {m : PM} {a : List Nat} {b g off n et : Nat} {frz : Bool} (hb : m.get b = some (.cells (cu a) g frz et)) (hl : off + n ≤ a.length) : reify (d + 1) m (.msl b g off n 1) = some (.vsl (cu ((a.drop off).take n)) n none, m.upd b (.cells (cu a) g true et)) := by
  have hg : Nat.beq g g = true := Nat.beq_refl g
  have hc : cutN (cu a) off (Nat.mul n 1) = some (cu ((a.drop off).take n)) := by
    unfold cutN
    have e : Nat.ble (Nat.add off (Nat.mul n 1)) (cu a).length = true := by rw [cu_length]; exact Nat.ble_eq_true_of_le (by show off + n * 1 ≤ _; omega)
    rw [e]
    simp only [cond_true]
    congr 1
    rw [cu_take, cu_drop]
    show _ = List.take n _
    congr 1
    exact Nat.mul_one n
  simp only [reify, hb, hg, cond_true, hc, reifysW_flats cu_flats, cu_flats]
theorem reify_t2 {d : Nat} {m : PM} {v w : PV} (h : flat v = true) (h' : flat w = true) : reify (d + 1) m (.tup [v, w]) = some (.tup [v, w], m) := by
  simp only [reify, reifysW_flats (flats2 h h')]
theorem reify_t3 {d : Nat} {m : PM} {v w u : PV} (h : flat v = true) (h' : flat w = true) (h'' : flat u = true) : reify (d + 1) m (.tup [v, w, u]) = some (.tup [v, w, u], m) := by
  simp only [reify, reifysW_flats (flats3 h h' h'')]
theorem reify_fl {d : Nat} {m : PM} {v : PV} (h : flat v = true) (hs : ∀ b g o n z, v ≠ .msl b g o n z) : reify (d + 1) m v = some (v, m) := by
  cases v <;> first | rfl | (cases h; done) | simp [reify, flat]
/-- Go's table of the lengths of bytes -/
def chkTab (L : List UInt8) : Bool := (List.range 256).all fun y => match nthN L y with
  | some b => Nat.beq b.toNat (bl y)
  | none => false
theorem ix_tab {t : Option TI} {z : Option (List PV)} {sz : Nat} (ht : t = some ⟨.string, sz, z⟩) {L : List UInt8} (h : chkTab L = true) {y : Nat} (hy : y < 256) : pIx t (some (.str L)) (some (.int .u8 (y : Int))) = some (.int .u8 ((bl y : Nat) : Int)) := by
  subst ht
  have := List.all_eq_true.1 h y (List.mem_range.2 hy)
  simp only [pIx]
  show (match nthN L y with
    | some b => some (PV.int .u8 (Int.ofNat b.toNat))
    | none => none) = _
  cases hb : nthN L y with
  | none => rw [hb] at this; cases this
  | some b =>
    rw [hb] at this
    simp only at this ⊢
    rw [beq_t this]; rfl
theorem max_I {E : Env} {ts : List Nat} {a b : Int} (h : b ≤ a) : pBuiltin E .max ts (some [.int .i64 a, .int .i64 b]) = some (.int .i64 a) := by
  show foldI false (.int .i64 a) [.int .i64 b] = _
  simp only [foldI, cond_false, intLt_d]
  rw [decide_eq_false (show ¬ a < b by omega)]
  rfl
theorem min_I {E : Env} {ts : List Nat} {a b : Int} (h : a ≤ b) : pBuiltin E .min ts (some [.int .i64 a, .int .i64 b]) = some (.int .i64 a) := by
  show foldI true (.int .i64 a) [.int .i64 b] = _
  simp only [foldI, cond_true, intLt_d]
  rw [decide_eq_false (show ¬ b < a by omega)]
  rfl
theorem u_negI {a : Int} (h1 : -9223372036854775808 ≤ -a) (h2 : -a < 9223372036854775808) : pUn .neg (some (.int .i64 a)) = some (.int .i64 (-a)) := by
  show some (PV.int .i64 (IntKind.i64.wrap (0 - a))) = _
  rw [Int.zero_sub, wrapI h1 h2]
section
variable {K : Option TI} {cst : Bool}
theorem b_quoI {a b : Nat} (ha : a < 9223372036854775808) (hb : b ≠ 0) : bin2 K cst .quo (.int .i64 (a : Int)) (.int .i64 (b : Int)) = some (.int .i64 ((a / b : Nat) : Int)) := by
  show (bif intEq (b : Int) 0 then none else some (PV.int .i64 (IntKind.i64.wrap ((a : Int).tdiv b)))) = _
  have e : intEq (b : Int) 0 = false := by rw [intEq_d]; exact decide_eq_false (by omega)
  have e2 : a / b ≤ a := Nat.div_le_self _ _
  rw [e]
  simp only [cond_false]
  have e3 : (a : Int).tdiv (b : Int) = ((a / b : Nat) : Int) := rfl
  generalize a / b = c at e2 e3
  rw [e3, wrapI (by omega) (by omega)]
theorem b_remI {a b : Nat} (hb : b ≠ 0) : bin2 K cst .rem (.int .i64 (a : Int)) (.int .i64 (b : Int)) = some (.int .i64 ((a % b : Nat) : Int)) := by
  show (bif intEq (b : Int) 0 then none else some (PV.int .i64 ((a : Int).tmod b))) = _
  have e : intEq (b : Int) 0 = false := by rw [intEq_d]; exact decide_eq_false (by omega)
  rw [e]
  rfl
end
/-- 'a[0:]' -/
theorem sl_all {t : Option TI} {e eb : Nat} {ez z : Option (List PV)} {sz : Nat} (ht : t = some ⟨.slice e 1 eb ez, sz, z⟩) {a : List Nat} {p : PV} (h : Lim a p) {kd : IntKind} : ∃ q, pSlice t (some p) (some (some (.int kd 0))) (some none) (some none) = some q ∧ Lim a q := by
  subst ht
  rcases h with ⟨rfl, rfl⟩ | ⟨cp, rfl⟩
  · exact ⟨.nils, rfl, .inl ⟨rfl, rfl⟩⟩
  · refine ⟨.vsl (((cu a).take (Nat.mul a.length 1)).drop (Nat.mul 0 1)) (Nat.sub a.length 0) (match cp with | some c => some (Nat.sub c 0) | none => none), rfl, .inr ⟨(match cp with | some c => some (Nat.sub c 0) | none => none), ?_⟩⟩
    have e1 : Nat.mul a.length 1 = a.length := Nat.mul_one _
    have e2 : Nat.mul 0 1 = 0 := rfl
    rw [e1, e2, List.drop_zero, List.take_of_length_le (by rw [cu_length]; omega)]
    rfl
theorem sl_msl {t : Option TI} {e eb : Nat} {ez z : Option (List PV)} {sz : Nat} (ht : t = some ⟨.slice e 1 eb ez, sz, z⟩) {b g off n lo hi : Nat} {k k' : IntKind} (h1 : lo ≤ hi) (h2 : hi ≤ n) : pSlice t (some (.msl b g off n 1)) (some (some (.int k (lo : Int)))) (some (some (.int k' (hi : Int)))) (some none) = some (.msl b g (off + lo) (hi - lo) 1) := by
  subst ht
  have e1 : Nat.ble hi n = true := Nat.ble_eq_true_of_le h2
  have e2 : Nat.ble lo hi = true := Nat.ble_eq_true_of_le h1
  simp only [pSlice, bounds, hiOf, loOf]
  show (match (match (bif Nat.ble hi n then some hi else none) with
    | some h => (match (bif Nat.ble lo h then some lo else none) with
      | some l => some (l, h)
      | none => none)
    | none => none) with
    | some (l, h) => bif Nat.beq 1 1 then some (PV.msl b g (Nat.add off (Nat.mul l 1)) (Nat.sub h l) 1) else none
    | none => none) = _
  rw [e1]
  simp only [cond_true]
  rw [e2]
  show some (PV.msl b g (off + lo * 1) (hi - lo) 1) = _
  rw [Nat.mul_one]
theorem sl_msl_hi {t : Option TI} {e eb : Nat} {ez z : Option (List PV)} {sz : Nat} (ht : t = some ⟨.slice e 1 eb ez, sz, z⟩) {b g off n hi : Nat} {k' : IntKind} (h2 : hi ≤ n) : pSlice t (some (.msl b g off n 1)) (some none) (some (some (.int k' (hi : Int)))) (some none) = some (.msl b g off hi 1) := by
  subst ht
  have e1 : Nat.ble hi n = true := Nat.ble_eq_true_of_le h2
  simp only [pSlice, bounds, hiOf, loOf]
  show (match (match (bif Nat.ble hi n then some hi else none) with
    | some h => some (0, h)
    | none => none) with
    | some (l, h) => bif Nat.beq 1 1 then some (PV.msl b g (Nat.add off (Nat.mul l 1)) (Nat.sub h l) 1) else none
    | none => none) = _
  rw [e1]
  rfl
theorem sl_msl_0 {t : Option TI} {e eb : Nat} {ez z : Option (List PV)} {sz : Nat} (ht : t = some ⟨.slice e 1 eb ez, sz, z⟩) {b g off n : Nat} {k : IntKind} : pSlice t (some (.msl b g off n 1)) (some (some (.int k 0))) (some none) (some none) = some (.msl b g off n 1) := by
  subst ht
  rfl
/-- 'copy' of as much -/
theorem copy_msl {t : Option TI} {e eb : Nat} {ez z : Option (List PV)} {sz : Nat} (ht : t = some ⟨.slice e 1 eb ez, sz, z⟩) {b b' n et et' : Nat} {c c' : List Nat} {m : PM} (hb : m.get b = some (.cells (cu c) 0 false et)) (hb' : m.get b' = some (.cells (cu c') 0 false et')) (hc : c.length = n) (hc' : c'.length = n) :
    mCopy t m (.msl b 0 0 n 1) (.msl b' 0 0 n 1) = some (.int .i64 (n : Int), m.upd b (.cells (cu c') 0 false et)) := by
  subst ht
  have e1 : cutN (cu c') 0 (Nat.mul n 1) = some (cu c') := by
    unfold cutN
    have e : Nat.ble (Nat.add 0 (Nat.mul n 1)) (cu c').length = true := Nat.ble_eq_true_of_le (by show 0 + n * 1 ≤ _; rw [cu_length]; omega)
    rw [e, show Nat.mul n 1 = n from Nat.mul_one n]
    simp only [cond_true, List.drop_zero]
    rw [List.take_of_length_le (by rw [cu_length]; omega)]
  have e2 : putN (cu c) 0 (cu c') = some (cu c') := by
    unfold putN
    have e : Nat.ble (Nat.add 0 (cu c').length) (cu c).length = true := Nat.ble_eq_true_of_le (by show 0 + _ ≤ _; rw [cu_length, cu_length]; omega)
    rw [e]
    simp only [cond_true, List.take_zero, List.nil_append]
    rw [List.drop_eq_nil_of_le (by show _ ≤ 0 + _; rw [cu_length, cu_length]; omega), List.append_nil]
  have e3 : Nat.ble n n = true := Nat.ble_eq_true_of_le (Nat.le_refl _)
  have e4 : (Nat.beq 0 0 && (Nat.beq 1 1 && !Nat.beq 1 0)) = true := rfl
  have e5 : (Nat.beq 0 0 && Nat.beq 1 1) = true := rfl
  simp only [mCopy, hb, appendix, hb', e1, e4, e5, cond_true, e3, cellsOk_cu, Bool.and_self, e2]
  rfl
theorem re_agg {cs : List PV} (h : flats cs = true) : ∀ m, reifysW (reify 11) m [.agg cs] = some ([.agg cs], m) := fun m => by
  have e : reify 11 m (.agg cs) = some (.agg cs, m) := by simp only [reify, reifysW_flats h]
  simp only [reifysW, flat, cond_false, e]
theorem re_agg2 {cs ds : List PV} (h : flats cs = true) (h' : flats ds = true) : ∀ m, reifysW (reify 11) m [.agg cs, .agg ds] = some ([.agg cs, .agg ds], m) := fun m => by
  have e : reify 11 m (.agg cs) = some (.agg cs, m) := by simp only [reify, reifysW_flats h]
  have e2 : reify 11 m (.agg ds) = some (.agg ds, m) := by simp only [reify, reifysW_flats h']
  simp only [reifysW, flat, cond_false, e, e2]
theorem re_fagg {x : PV} {cs : List PV} (h : flat x = true) (h' : flats cs = true) : ∀ m, reifysW (reify 11) m [x, .agg cs] = some ([x, .agg cs], m) := fun m => by
  have e : reify 11 m (.agg cs) = some (.agg cs, m) := by simp only [reify, reifysW_flats h']
  have e2 : flat (.agg cs) = false := rfl
  simp only [reifysW, h, cond_true, e2, cond_false, e]
theorem one_get0 {x : Blk} : (PM.empty.new x).get 0 = some x := by rw [PM.get_new]; exact if_pos rfl
theorem two_get0 {x y : Blk} : ((PM.empty.new x).new y).get 0 = some x := by
  rw [PM.get_new, show (PM.empty.new x).next = 1 from rfl, if_neg (by decide)]; exact one_get0
theorem two_get1 {x y : Blk} : ((PM.empty.new x).new y).get 1 = some y := by rw [PM.get_new]; exact if_pos rfl
theorem three_get0 {x y z : Blk} : (((PM.empty.new x).new y).new z).get 0 = some x := by
  rw [PM.get_new, show ((PM.empty.new x).new y).next = 2 from rfl, if_neg (by decide)]; exact two_get0
theorem three_get1 {x y z : Blk} : (((PM.empty.new x).new y).new z).get 1 = some y := by
  rw [PM.get_new, show ((PM.empty.new x).new y).next = 2 from rfl, if_neg (by decide)]; exact two_get1
theorem three_get2 {x y z : Blk} : (((PM.empty.new x).new y).new z).get 2 = some z := by rw [PM.get_new]; exact if_pos rfl
end Go.Ab
