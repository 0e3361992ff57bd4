/- The interpreter: code, functions, calls, regions that draw their order: what it answers, the model does. -/
import Derived.Test.YtkidolggnmomcaaGreatDoorAb
import Derived.LoopN
import Derived.Defers
import Derived.Orders
set_option linter.unusedVariables false
set_option linter.unusedSimpArgs false
/- Code: what the interpreter answers, the model does. Operations one after another, branches, blocks, loops. -/
namespace Go.Ab
section
variable {P : Program} {c : Cx} {m : PM} {w : World}

theorem ofV_sound {v : Value} {p : PV} (h : ofV v = some p) : Rep c m w p v := by
  unfold ofV at h
  split at h <;> cases h
  · exact .bool _
  · exact .int _ _
  · rename_i s
    obtain ⟨⟨l⟩⟩ := s
    exact .str l
  · exact .nilp
  · exact .nils
  · exact .nilm
  · exact .nilf
  · exact .nili
  · exact .clo _ _ _ _ _ .nil .nil
  · exact .tup _ _ .nil
theorem ofVs_sound : ∀ {vs : List Value} {l : List PV}, ofVs vs = some l → Reps c m w l vs
  | [], _, h => by cases h; exact .nil
  | v :: vs, l, h => by
    simp only [ofVs] at h
    split at h
    · rename_i a ha
      split at h
      · rename_i b hb
        cases h
        exact .cons _ _ _ _ (ofV_sound ha) (ofVs_sound hb)
      · cases h
    · cases h
theorem ofIface_sound {v : Value} {p : PV} (h : ofIface v = some p) : Rep c m w p v := by
  unfold ofIface at h
  split at h
  · split at h
    · rename_i x hx
      cases h
      exact .ifc _ _ _ (ofV_sound hx)
    · cases h
  · exact ofV_sound h
theorem ofC_sound {v : Value} {p : PV} (h : ofC v = some p) : Rep c m w p v := by
  unfold ofC at h
  split at h
  · rename_i cs
    split at h
    · rename_i l hl
      cases h
      obtain ⟨cs⟩ := cs
      exact .agg _ _ (ofVs_sound hl)
    · cases h
  · exact ofIface_sound h

/-- a deferred call -/
def DefOk (c : Cx) (m : PM) (w : World) (d : Nat × List PV) (e : Deferred) : Prop := ∃ cap args, e = { target := .fn (.func d.1) cap, args := args } ∧ Reps c m w d.2 (args ++ cap).toList
def DefsOk (c : Cx) (m : PM) (w : World) : List (Nat × List PV) → List Deferred → Prop
  | [], [] => True
  | d :: ds, e :: es => DefOk c m w d e ∧ DefsOk c m w ds es
  | _, _ => False
theorem DefsOk.carry {c' : Cx} {m' : PM} {w' : World} (h : Carry c m w c' m' w') : ∀ {ds : List (Nat × List PV)} {es : List Deferred}, DefsOk c m w ds es → DefsOk c' m' w' ds es
  | [], [], _ => trivial
  | _ :: _, _ :: _, ⟨⟨cap, args, h1, h2⟩, h3⟩ => ⟨⟨cap, args, h1, h2.carry h⟩, h3.carry h⟩
  | [], _ :: _, h => h
  | _ :: _, [], h => h

/-- the state of a walk -/
structure SRel (c : Cx) (s : St) (a : Act) (w : World) : Prop where
  mem : MemRel c s.me w
  tm : ∀ t p, s.tm.get t = some p → Rep c s.me w p (a.tmps.getD t undef)
  tn : ∀ t, s.tm.get t = none → a.tmps.getD t undef = undef
  nt : a.tmps.size = s.nt
  df : DefsOk c s.me w s.df a.defers

theorem evo_at {tm : Tr PV} {a : Act} {x : Operand} {p : PV} (hx : ∀ t, x = .tmp t → (∀ p, tm.get t = some p → Rep c m w p (a.tmps.getD t undef)) ∧ (tm.get t = none → a.tmps.getD t undef = undef)) (h : evo tm x = some p) : Rep c m w p (a.eval x) := by
  unfold evo at h
  split at h
  · rename_i t
    split at h
    · rename_i v hv
      cases h
      exact (hx t rfl).1 _ hv
    · rename_i hv
      cases h
      show Rep c m w undefPV (a.tmps.getD t undef)
      rw [(hx t rfl).2 hv]; exact undef_rep
  · exact ofC_sound h
  · cases h
  · cases h; exact .clo _ _ _ _ _ .nil .nil
theorem evo_sound {s : St} {a : Act} (hS : SRel c s a w) {x : Operand} {p : PV} (h : evo s.tm x = some p) : Rep c s.me w p (a.eval x) := by
  unfold evo at h
  split at h
  · rename_i t
    split at h
    · rename_i v hv
      cases h
      exact hS.tm t _ hv
    · rename_i hv
      cases h
      show Rep c s.me w undefPV (a.tmps.getD t undef)
      rw [hS.tn t hv]; exact undef_rep
  · exact ofC_sound h
  · cases h
  · cases h; exact .clo _ _ _ _ _ .nil .nil

theorem put_sound {s s' : St} {a : Act} {c' : Cx} {m' : PM} {w' : World} {dst : Option Nat} {q : PV} {v : Value} (hS : SRel c s a w) (hE : Ext c s.me w c' m' w') (hM : MemRel c' m' w') (hr : Rep c' m' w' q v) (h : put s dst q m' = some s') :
    s'.me = m' ∧ SRel c' s' (a.put dst v) w' := by
  have hC := hE.carry hS.mem
  unfold put at h
  split at h
  · rename_i d
    obtain ⟨h1, h2⟩ := bif_some h
    cases h2
    have hd : d < s.nt := by simp [Nat.blt] at h1; omega
    refine ⟨rfl, hM, ?_, ?_, by simp [Act.put, hS.nt], by simpa [Act.put] using hS.df.carry hC⟩
    · intro t p hp
      by_cases e : d = t
      · subst e
        rw [Tr.get_set_same] at hp; cases hp
        simp [Act.put, hS.nt, hd]
        exact hr
      · rw [Tr.get_set_other _ _ e] at hp
        have := (hS.tm t p hp).carry hC
        simpa [Act.put, Array.getElem?_setIfInBounds, e] using this
    · intro t hp
      by_cases e : d = t
      · subst e
        rw [Tr.get_set_same] at hp; cases hp
      · rw [Tr.get_set_other _ _ e] at hp
        have := hS.tn t hp
        simpa [Act.put, Array.getElem?_setIfInBounds, e] using this
  · cases h
    exact ⟨rfl, hM, fun t p hp => (hS.tm t p hp).carry hC, hS.tn, hS.nt, hS.df.carry hC⟩

/-- a call of a Go function -/
def CallDoes (P : Program) (f : Nat) (vs : List Value) (w : World) (R : Value → World → Prop) : Prop :=
  ((callFunc f ⟨vs⟩).run P w = .ok (.enter f ⟨vs⟩) w ∧ Calls P f ⟨vs⟩ w fun e w' => ∃ v, e = .returned v ∧ R v w') ∨ ∃ v w', (callFunc f ⟨vs⟩).run P w = .ok (.value v) w' ∧ R v w'
def CallOk (P : Program) (K : (Nat → List Int → PV) → Prop) (call : Nat → List PV → PM → Option (PV × PM)) : Prop :=
  ∀ f l m q m', call f l m = some (q, m') → ∀ c w vs, K c.ρ → MemRel c m w → Reps c m w l vs → CallDoes P f vs w fun v w' => ∃ c', Ext c m w c' m' w' ∧ MemRel c' m' w' ∧ Rep c' m' w' q v

theorem callOf_some {ρ : Operand → Option PV} {op : Op} {f : Nat} {l : List PV} (h : callOf ρ op = some (some (f, l))) :
    ∃ cl x a b la, op = .call cl ∧ cl.callee = .value x ∧ ρ x = some (.clo f a b) ∧ evs ρ cl.args.toList = some la ∧ l = a ++ (la ++ b) := by
  unfold callOf at h
  split at h
  · rename_i cl
    split at h
    · rename_i x hx
      split at h
      · rename_i f' a b hf
        split at h
        · rename_i la hla
          cases h
          exact ⟨cl, x, a, b, la, rfl, hx, hf, hla, rfl⟩
        · cases h
      · cases h
    · cases h
  · cases h

section
variable {E : Env} {K₀ : (Nat → List Int → PV) → Prop} {call : Nat → List PV → PM → Option (PV × PM)}

theorem call_at (hcall : CallOk P K₀ call) (hk : K₀ c.ρ) {ρ : Operand → Option PV} {a : Act} {o : Oper} {f : Nat} {l : List PV} {q : PV} {m' : PM} (hM : MemRel c m w) (hr : ∀ x ∈ o.op.operands, ∀ p, ρ x = some p → Rep c m w p (a.eval x))
    (hc : callOf ρ o.op = some (some (f, l))) (h : call f l m = some (q, m'))
    {K : Act → World → Prop} {Q : Exit → Act → World → Prop} (hK : ∀ c' v w', Ext c m w c' m' w' → MemRel c' m' w' → Rep c' m' w' q v → K (a.put o.dst v) w') : o.wp P a w K Q := by
  obtain ⟨cl, x, A, B, la, ho, hx, hf, hla, rfl⟩ := callOf_some hc
  have hfr := hr x (by rw [ho]; simp [Op.operands, Call.operands, hx]) _ hf
  generalize hv : a.eval x = fv at hfr
  cases hfr with
  | clo _ _ _ as bs ha hb =>
  have hl := evs_sound (r := a.eval) (fun x hx' p hp => hr x (by rw [ho]; simp only [Op.operands, Call.operands, hx]; simpa using Or.inr hx') p hp) hla
  have hrs : Reps c m w (A ++ (la ++ B)) (as ++ (cl.args.toList.map a.eval ++ bs)) := ha.append (hl.append hb)
  have hex : execOp a.eval o = callFunc f ⟨as ++ (cl.args.toList.map a.eval ++ bs)⟩ := by
    obtain ⟨dst, op, type, pos, after, guard⟩ := o
    obtain ⟨callee, args, ats⟩ := cl
    simp only at ho hx
    subst ho; subst hx
    show ((Deferred.ofValue (a.eval x) (args.map a.eval)).bind fun d => invoke d.target d.args) = _
    rw [hv]
    show callFunc f (((⟨as⟩ : Array Value) ++ args.map a.eval) ++ (⟨bs⟩ : Array Value)) = _
    congr 1
    apply Array.ext'
    simp
  unfold Oper.wp
  rw [hex]
  rcases hcall f _ _ _ _ h c w _ hk hM hrs with ⟨h1, h2⟩ | ⟨v, w', h1, c', e1, e2, e3⟩
  · rw [h1, Oper.upon_enter]
    refine h2.mono ?_
    rintro e w' ⟨v, rfl, c', e1, e2, e3⟩
    exact hK c' v w' e1 e2 e3
  · rw [h1, Oper.upon_value]
    exact hK c' v w' e1 e2 e3
theorem op_at (hE : ∀ t i, E.ty t = some i → TyOk P t i) {ρ : Operand → Option PV} {a : Act} {o : Oper} {q : PV} {m' : PM} (hM : MemRel c m w) (hρ : ∀ k n, ρ (.const (.int k n)) = some (.int k n)) (hr : ∀ x ∈ o.op.operands, ∀ p, ρ x = some p → Rep c m w p (a.eval x))
    (h : evOp E ρ m o.op = some (q, m'))
    {K : Act → World → Prop} {Q : Exit → Act → World → Prop} (hK : ∀ c' v w', Ext c m w c' m' w' → MemRel c' m' w' → Rep c' m' w' q v → K (a.put o.dst v) w') : o.wp P a w K Q := by
  obtain ⟨n, v, w', c', h1, h2, e1, e2, e3⟩ := evOp_sound (r := a.eval) hE hM hρ hr h
  unfold Oper.wp
  rw [h1]
  rcases h2 with rfl | ⟨rfl, rfl⟩
  · exact hK c' _ w' e1 e2 e3
  · exact hK c' _ w' e1 e2 e3
theorem call_sound (hcall : CallOk P K₀ call) (hk : K₀ c.ρ) {s s' : St} {a : Act} {o : Oper} {f : Nat} {l : List PV} {q : PV} {m' : PM} (hS : SRel c s a w) (hc : callOf (evo s.tm) o.op = some (some (f, l))) (h : call f l s.me = some (q, m'))
    (hp : put s o.dst q m' = some s') {K : Act → World → Prop} {Q : Exit → Act → World → Prop} (hK : ∀ c' a' w', Ext c s.me w c' s'.me w' → SRel c' s' a' w' → K a' w') : o.wp P a w K Q :=
  call_at hcall hk hS.mem (fun x _ p hp => evo_sound hS hp) hc h fun c' v w' e1 e2 e3 => by
    obtain ⟨hm, hS'⟩ := put_sound hS e1 e2 e3 hp
    subst hm
    exact hK c' _ w' e1 hS'

theorem evOper_sound (hE : ∀ t i, E.ty t = some i → TyOk P t i) (hcall : CallOk P K₀ call) (hk : K₀ c.ρ) {s s' : St} {a : Act} {o : Oper} (hS : SRel c s a w) (h : evOper E call s o = some s')
    {K : Act → World → Prop} {Q : Exit → Act → World → Prop} (hK : ∀ c' a' w', Ext c s.me w c' s'.me w' → SRel c' s' a' w' → K a' w') : o.wp P a w K Q := by
  unfold evOper at h
  split at h
  · rename_i f l hc
    unfold put2 at h
    split at h
    · rename_i q m' hq
      exact call_sound hcall hk hS hc hq h hK
    · cases h
  · cases h
  · rename_i hc
    split at h
    · rename_i d hd
      unfold deferOf at hd
      split at hd
      · rename_i cl ho
        split at hd
        · rename_i x hx
          split at hd
          · rename_i f A B hf
            split at hd
            · rename_i la hla
              cases hd
              have hfr := evo_sound hS hf
              generalize hv : a.eval x = fv at hfr
              cases hfr with
              | clo _ _ _ as bs ha hb =>
              have hl := evs_sound (r := a.eval) (fun x _ p hp => evo_sound hS hp) hla
              have hex : execOp a.eval o = (Deferred.ofValue (a.eval x) (cl.args.map a.eval)).bind fun d => pure (.defer d) := by
                obtain ⟨dst, op, type, pos, after, guard⟩ := o
                obtain ⟨callee, args, ats⟩ := cl
                simp only at ho hx
                subst ho; subst hx
                rfl
              unfold Oper.wp
              rw [hex, hv]
              show o.upon P a K Q (.ok (.defer { target := .fn (.func f) ⟨bs⟩, args := (⟨as⟩ : Array Value) ++ cl.args.map a.eval }) w)
              rw [Oper.upon_defer]
              have hS2 : SRel c ⟨s.tm, s.nt, s.me, (f, A ++ (la ++ B)) :: s.df⟩ { a with defers := { target := .fn (.func f) ⟨bs⟩, args := (⟨as⟩ : Array Value) ++ cl.args.map a.eval } :: a.defers } w :=
                ⟨hS.mem, hS.tm, hS.tn, hS.nt, ⟨_, _, rfl, by simpa using ha.append (hl.append hb)⟩, hS.df⟩
              obtain ⟨hm, hS'⟩ := put_sound hS2 .refl hS.mem undef_rep h
              have hx : Ext c s.me w c s'.me w := by
                rw [hm]; exact .refl
              exact hK c _ w hx hS'
            · cases hd
          · cases hd
        · cases hd
      · cases hd
    · cases h
    · unfold put2 at h
      split at h
      · rename_i q m' hq
        obtain ⟨n, v, w', c', h1, h2, e1, e2, e3⟩ := evOp_sound (r := a.eval) hE hS.mem (fun k n => rfl) (fun x _ p hp => evo_sound hS hp) hq
        obtain ⟨hm, hS'⟩ := put_sound hS e1 e2 e3 h
        subst hm
        unfold Oper.wp
        rw [h1]
        rcases h2 with rfl | ⟨rfl, rfl⟩
        · exact hK c' _ w' e1 hS'
        · exact hK c' _ w' e1 hS'
      · cases h

theorem guard_at {tm : Tr PV} {a : Act} {ops : Array Oper} {o : Oper} {b : Bool} (hS : ∀ j k oj d, o.guard = some (j, k) → ops[j]? = some oj → oj.dst = some d → ∀ p, tm.get d = some p → Rep c m w p (a.tmps.getD d undef)) (h : guardOk tm ops.toList o.guard = some b) : Region.wanted o (yielded ops a.tmps) = b := by
  unfold Region.wanted
  unfold guardOk at h
  cases hg : o.guard with
  | none => rw [hg] at h; cases h; rfl
  | some g =>
    obtain ⟨j, want⟩ := g
    rw [hg] at h
    simp only at h ⊢
    rw [nthN_eq] at h
    split at h
    · rename_i oj hj
      split at h
      · rename_i d hd
        have hoj : ops[j]? = some oj := by simpa using hj
        have hy : yielded ops a.tmps j = match a.tmps[d]? with
          | some (.bool b) => some b
          | _ => none := by
          unfold yielded
          simp only [hoj, Option.bind_some, hd]
          rfl
        split at h
        · rename_i x hx
          have hr := hS j want oj d hg hoj hd _ hx
          have : a.tmps[d]? = some (.bool x) := by
            generalize hv : a.tmps.getD d undef = v at hr
            cases hr
            rw [Array.getD_eq_getD_getElem?] at hv
            cases hq : a.tmps[d]? with
            | none => rw [hq] at hv; cases hv
            | some u => rw [hq] at hv; simp at hv; rw [hv]
          rw [hy, this]
          cases h
          cases x <;> cases want <;> rfl
        · rename_i hx
          have hr := hS j want oj d hg hoj hd _ hx
          generalize hv : a.tmps.getD d undef = v at hr
          cases hr with
          | tup _ vs hs =>
          cases hs
          rw [Array.getD_eq_getD_getElem?] at hv
          rw [hy]
          cases hq : a.tmps[d]? with
          | none => cases h; rfl
          | some u => rw [hq] at hv; simp at hv; subst hv; cases h; rfl
        · cases h
      · cases h
    · cases h

theorem guard_sound {s : St} {a : Act} {ops : Array Oper} {o : Oper} {b : Bool} (hS : SRel c s a w) (h : guardOk s.tm ops.toList o.guard = some b) : Region.wanted o (yielded ops a.tmps) = b :=
  guard_at (fun _ _ _ d _ _ _ => hS.tm d) h

theorem evOps_sound (hE : ∀ t i, E.ty t = some i → TyOk P t i) (hcall : CallOk P K₀ call) {ops : Array Oper} {Q : Exit → Act → World → Prop} {s1 : St} {c0 : Cx} {m0 : PM} {w0 : World} (hk : K₀ c0.ρ) (hM0 : MemRel c0 m0 w0)
    (hK : ∀ c' a' w', Ext c0 m0 w0 c' s1.me w' → SRel c' s1 a' w' → Q .normal a' w') :
    ∀ (os : List Oper) (i : Nat), ops.toList.drop i = os → ∀ {c : Cx} {s : St} {a : Act} {w : World}, Ext c0 m0 w0 c s.me w → SRel c s a w → evOps E call ops.toList os s = some s1 → wpOps P ops Q (List.range' i os.length) a w
  | [], i, _, c, s, a, w, hX, hS, h => by
    cases h
    exact hK c a w hX hS
  | o :: os, i, hd, c, s, a, w, hX, hS, h => by
    have hi : ops[i]? = some o := by
      have : (ops.toList.drop i)[0]? = some o := by rw [hd]; rfl
      rw [List.getElem?_drop] at this
      simpa using this
    have hd' : ops.toList.drop (i + 1) = os := by
      have : (ops.toList.drop i).drop 1 = os := by rw [hd]; rfl
      rwa [List.drop_drop] at this
    simp only [List.length_cons, List.range'_succ, wpOps, hi]
    simp only [evOps] at h
    split at h
    · rename_i hg
      have hw := guard_sound hS hg
      rw [if_pos hw]
      split at h
      · rename_i s' hs'
        exact .inl (evOper_sound hE hcall (by rw [hX.rho]; exact hk) hS hs' fun c' a' w' hX' hS' => evOps_sound hE hcall hk hM0 hK os (i + 1) hd' (hX.trans hM0 hX') hS' h)
      · cases h
    · rename_i hg
      have hw := guard_sound hS hg
      rw [if_neg (by rw [hw]; decide)]
      split at h
      · rename_i s' hs'
        obtain ⟨hm, hS'⟩ := put_sound hS .refl hS.mem undef_rep hs'
        have hX' : Ext c s.me w c s'.me w := by rw [hm]; exact .refl
        exact evOps_sound hE hcall hk hM0 hK os (i + 1) hd' (hX.trans hM0 hX') hS' h
      · cases h
    · cases h

/-- what is left of regions that draw their order -/
def DrawOk (P : Program) (K : (Nat → List Int → PV) → Prop) (E : Env) (call : Nat → List PV → PM → Option (PV × PM)) : Prop :=
  ∀ (id : Nat) (ops : Array Oper) (s s1 : St) (c : Cx) (a : Act) (w : World) (Q : Exit → Act → World → Prop), regOk ops.toList = true → K c.ρ → SRel c s a w → evDraw E call ops.toList s = some s1 →
    (∀ c' a' w', Ext c s.me w c' s1.me w' → SRel c' s1 a' w' → Q .normal a' w') → (Code.region id ops true).wp P Q a w

/-- how code ends -/
def Post (P : Program) (c : Cx) (m : PM) (w : World) (x : Ex) (s : St) : Exit → Act → World → Prop
  | .normal, a', w' => x = .nrm ∧ ∃ c', Ext c m w c' s.me w' ∧ SRel c' s a' w'
  | .ret, a', w' => x = .ret ∧ ∃ c', Ext c m w c' s.me w' ∧ SRel c' s a' w'
  | .exit id, a', w' => x = .exit id ∧ ∃ c', Ext c m w c' s.me w' ∧ SRel c' s a' w'
  | _, _, _ => False
theorem Post.from {c0 : Cx} {m0 : PM} {w0 : World} (hM0 : MemRel c0 m0 w0) (hX : Ext c0 m0 w0 c m w) {x : Ex} {s : St} : ∀ e a w', Post P c m w x s e a w' → Post P c0 m0 w0 x s e a w'
  | .normal, _, _, ⟨h, c', h1, h2⟩ => ⟨h, c', hX.trans hM0 h1, h2⟩
  | .ret, _, _, ⟨h, c', h1, h2⟩ => ⟨h, c', hX.trans hM0 h1, h2⟩
  | .exit _, _, _, ⟨h, c', h1, h2⟩ => ⟨h, c', hX.trans hM0 h1, h2⟩
  | .panic _, _, _, h => h.elim
  | .goto _, _, _, h => h.elim
  | .outgrown, _, _, h => h.elim

theorem evCode_sound (hE : ∀ t i, E.ty t = some i → TyOk P t i) (hcall : CallOk P K₀ call) (hdraw : DrawOk P K₀ E call) (N : Nat) :
    ∀ (cd : Code) {c : Cx} {s s1 : St} {a : Act} {w : World} {x : Ex}, codeReg cd = true → K₀ c.ρ → SRel c s a w → evCode E call N cd s = some (x, s1) → cd.wp P (Post P c s.me w x s1) a w := by
  intro cd
  induction cd with
  | skip =>
    intro c s s1 a w x hg hk hS h
    cases h
    exact wp_skip ⟨rfl, c, .refl, hS⟩
  | region id ops dr =>
    intro c s s1 a w x hg hk hS h
    simp only [evCode] at h
    split at h
    · rename_i s' hs'
      cases h
      cases dr with
      | true => exact hdraw id ops s _ c a w _ hg hk hS hs' fun c' a' w' h1 h2 => ⟨rfl, c', h1, h2⟩
      | false =>
        refine wp_region ?_
        have := evOps_sound (Q := Post P c s.me w .nrm s1) hE hcall hk hS.mem (fun c' a' w' h1 h2 => ⟨rfl, c', h1, h2⟩) ops.toList 0 rfl .refl hS hs'
        rwa [← List.range_eq_range', Array.length_toList] at this
    · cases h
  | seq A B ihA ihB =>
    intro c s s1 a w x hg hk hS h
    simp only [evCode] at h
    obtain ⟨hg1, hg2⟩ := and_t hg
    refine wp_seq ?_
    split at h
    · rename_i s' hs'
      refine wp_mono (ihA hg1 hk hS hs') ?_
      intro e a' w' hp
      cases e <;> simp only [Post, reduceCtorEq, false_and] at hp
      obtain ⟨_, c', hX, hS'⟩ := hp
      exact wp_mono (ihB hg2 (by rw [hX.rho]; exact hk) hS' h) (Post.from hS.mem hX)
    · rename_i s' hs'
      cases h
      refine wp_mono (ihA hg1 hk hS hs') ?_
      intro e a' w' hp
      cases e <;> simp only [Post, reduceCtorEq, false_and] at hp
      exact ⟨rfl, hp.2⟩
    · rename_i id s' hs'
      cases h
      refine wp_mono (ihA hg1 hk hS hs') ?_
      intro e a' w' hp
      cases e <;> simp only [Post, reduceCtorEq, false_and] at hp
      exact hp
    · cases h
  | cond y A B ihA ihB =>
    intro c s s1 a w x hg hk hS h
    simp only [evCode] at h
    obtain ⟨hg1, hg2⟩ := and_t hg
    split at h
    · rename_i hc
      refine wp_cond_true ?_ (ihA hg1 hk hS h)
      unfold condOf at hc
      split at hc
      · rename_i b hb
        cases hc
        have := evo_sound hS hb
        generalize a.eval y = v at this
        cases this; rfl
      · cases hc
    · rename_i hc
      refine wp_cond_false ?_ (ihB hg2 hk hS h)
      unfold condOf at hc
      split at hc
      · rename_i b hb
        cases hc
        have := evo_sound hS hb
        generalize a.eval y = v at this
        cases this; rfl
      · cases hc
    · cases h
  | block id A ih =>
    intro c s s1 a w x hg hk hS h
    simp only [evCode] at h
    refine wp_block ?_
    split at h
    · rename_i i s' hs'
      refine wp_mono (ih hg hk hS hs') ?_
      intro e a' w' hp
      cases e <;> simp only [Post, reduceCtorEq, false_and, Ex.exit.injEq] at hp
      obtain ⟨hi, hp⟩ := hp
      subst hi
      simp only [Exit.inBlock]
      cases hb : Nat.beq i id with
      | true =>
        rw [hb] at h; cases h
        rw [if_pos (beq_t hb)]
        exact ⟨rfl, hp⟩
      | false =>
        rw [hb] at h; cases h
        rw [if_neg (nbeq hb)]
        exact ⟨rfl, hp⟩
    · rename_i s' hs'
      cases h
      refine wp_mono (ih hg hk hS hs') ?_
      intro e a' w' hp
      cases e <;> simp only [Post, reduceCtorEq, false_and] at hp
      exact ⟨rfl, hp.2⟩
    · rename_i s' hs'
      cases h
      refine wp_mono (ih hg hk hS hs') ?_
      intro e a' w' hp
      cases e <;> simp only [Post, reduceCtorEq, false_and] at hp
      exact ⟨rfl, hp.2⟩
    · cases h
  | loop A ih =>
    intro c s s1 a w x hg hk hS h
    simp only [evCode] at h
    refine wp_loop_rounds N ?_
    have key : ∀ (n : Nat) {c' : Cx} {s' : St} {a' : Act} {w' : World}, SRel c' s' a' w' → Ext c s.me w c' s'.me w' → loopN (evCode E call N A) n s' = some (x, s1) → Code.rounds P A (Post P c s.me w x s1) n a' w' := by
      intro n
      induction n with
      | zero => intro c' s' a' w' _ _ h; cases h
      | succ n ihn =>
        intro c' s' a' w' hS' hX h
        simp only [loopN] at h
        rw [rounds_succ]
        split at h
        · rename_i s2 hs2
          refine wp_mono (ih hg (by rw [hX.rho]; exact hk) hS' hs2) ?_
          intro e a2 w2 hp
          cases e <;> simp only [Post, reduceCtorEq, false_and] at hp
          obtain ⟨_, c2, hX2, hS2⟩ := hp
          exact ihn hS2 (hX.trans hS.mem hX2) h
        · rename_i s2 hs2
          cases h
          refine wp_mono (ih hg (by rw [hX.rho]; exact hk) hS' hs2) ?_
          intro e a2 w2 hp
          cases e <;> simp only [Post, reduceCtorEq, false_and] at hp
          obtain ⟨_, c2, hX2, hS2⟩ := hp
          exact ⟨rfl, c2, hX.trans hS.mem hX2, hS2⟩
        · rename_i id s2 hs2
          cases h
          refine wp_mono (ih hg (by rw [hX.rho]; exact hk) hS' hs2) ?_
          intro e a2 w2 hp
          cases e <;> simp only [Post, reduceCtorEq, false_and] at hp
          obtain ⟨h1, c2, hX2, hS2⟩ := hp
          exact ⟨h1, c2, hX.trans hS.mem hX2, hS2⟩
        · cases h
    exact key N hS .refl h
  | exit i =>
    intro c s s1 a w x hg hk hS h
    cases h
    exact wp_exit ⟨rfl, c, .refl, hS⟩
  | ret =>
    intro c s s1 a w x hg hk hS h
    cases h
    exact wp_ret ⟨rfl, c, .refl, hS⟩
  | _ => intro c s s1 a w x hg hk hS h; cases h
end
end
end Go.Ab
/- A function's body: from the call to its results. -/
namespace Go.Ab
section
variable {P : Program} {c : Cx} {m : PM} {w w' : World}

/-- the world has grown, nothing of it has changed -/
def Grown (w w' : World) : Prop := w.heap.size ≤ w'.heap.size ∧ (∀ B, B < w.heap.size → w'.heap[B]? = w.heap[B]?) ∧ (w'.os = w.os ∧ w'.output = w.output ∧ w'.tape = w.tape)
theorem Grown.refl : Grown w w := ⟨Nat.le_refl _, fun _ _ => rfl, rfl, rfl, rfl⟩
theorem Grown.trans {w2 : World} (h : Grown w w') (h' : Grown w' w2) : Grown w w2 :=
  ⟨Nat.le_trans h.1 h'.1, fun B hB => by rw [h'.2.1 B (Nat.lt_of_lt_of_le hB h.1), h.2.1 B hB], h'.2.2.1.trans h.2.2.1, h'.2.2.2.1.trans h.2.2.2.1, h'.2.2.2.2.trans h.2.2.2.2⟩
theorem MemRel.grown (hM : MemRel c m w) (h : Grown w w') : Ext c m w c m w' ∧ MemRel c m w' := by
  obtain ⟨h1, h2, h3⟩ := h
  have hE : Ext c m w c m w' := {
    size := h1
    old := fun B hB _ => h2 B hB
    rho := rfl
    S1 := fun _ h => h
    S2 := fun _ h => .inl h
    L1 := fun _ h => h
    L2 := fun _ h => .inl h
    blk := fun _ x _ h => ⟨x, h, Blk.le_refl x, fun _ => rfl⟩
    unl := fun _ _ _ => rfl
    next := Nat.le_refl _
    mut' := fun b h hm => .inr ⟨b, h, hm, rfl⟩
    room := fun B arr et fz h => ⟨arr, fz, by rw [h2 B (Array.getElem?_eq_some_iff.1 h).1]; exact h, rfl⟩
    os := h3 }
  have hC := hE.carry hM
  exact ⟨hE, ⟨hM.fresh, hM.dom, fun b x hL hx => (hM.blk b x hL hx).carry hC rfl (h2 _ (Mut.lt hM hL)), hM.inj, fun B hB => Nat.lt_of_lt_of_le (hM.Slt B hB) h1, hM.Smut⟩⟩

/-- what the interpreter is told of the program is so -/
structure EnvOk (P : Program) (K : (Nat → List Int → PV) → Prop) (E : Env) : Prop where
  ty : ∀ t i, E.ty t = some i → TyOk P t i
  fn : ∀ f fn, E.fn f = some fn → P.funcs[f]? = some fn ∧ (fn.name == "runtime.NumGoroutine") = false
  reg : ∀ f fn cd, E.fn f = some fn → fn.body = some cd → codeReg cd = true
  guard : ∀ f, E.guard f = true → ∀ (vs : Array Value) (w : World), (callFunc f vs).run P w = .ok (.enter f vs) w ∧ CallsD P f vs .returning w fun e u' w' => (∃ v, e = .returned v) ∧ u' = .returning ∧ Grown w w'
  ext : ∀ f g, E.ext f = some g → ∀ l r, flat1s l = true → g l = some r → ∀ c m w vs, K c.ρ → MemRel c m w → Reps c m w l vs → CallDoes P f vs w fun v w' => ∃ c', Ext c m w c' m w' ∧ MemRel c' m w' ∧ Rep c' m w' r v
  extM : ∀ f g, E.extM f = some g → ∀ l m r m', g l m = some (r, m') → ∀ c w vs, K c.ρ → MemRel c m w → Reps c m w l vs → CallDoes P f vs w fun v w' => ∃ c', Ext c m w c' m' w' ∧ MemRel c' m' w' ∧ Rep c' m' w' r v
  same : ∀ f, E.same f = true → E.extM f = none → ∀ (v : Value) (w : World), (callFunc f #[v]).run P w = .ok (.value v) w
  mixed : P.follows .mixedOrders = true

section
variable {E : Env} {K₀ : (Nat → List Int → PV) → Prop} {call : Nat → List PV → PM → Option (PV × PM)}

def resVar (tmps : Array Value) (x : ResultVar) : Sem Value := match x with
  | .tmp t => pure (tmps.getD t undef)
  | .cell b t => do loadVar t (← asAddr (tmps.getD b undef))
theorem results_eq (fn : Func) (tmps : Array Value) : results fn tmps = (do
    let vs ← fn.results.mapM (resVar tmps)
    pure (if h : vs.size = 1 then vs[0] else .tuple vs)) := rfl
theorem results_mapM (hE : ∀ t i, E.ty t = some i → TyOk P t i) {s : St} {a : Act} (hS : SRel c s a w) : ∀ {l : List ResultVar} {ps : List PV}, resultsOf E s.tm s.me l = some ps →
    ∃ vs, (l.mapM (resVar a.tmps)).run P w = .ok vs w ∧ Reps c s.me w ps vs
  | [], ps, h => by cases h; exact ⟨[], rfl, .nil⟩
  | .tmp t :: l, ps, h => by
    simp only [resultsOf] at h
    split at h
    · rename_i v hv
      split at h
      · rename_i r hr
        cases h
        obtain ⟨vs, h1, h2⟩ := results_mapM hE hS hr
        refine ⟨_ :: vs, ?_, .cons _ _ _ _ (evo_sound hS hv) h2⟩
        simp only [List.mapM_cons, resVar, Sem.run_bind, Sem.run_pure, Result.andThen_ok, h1]
        rfl
      · cases h
    · cases h
  | .cell b t :: l, ps, h => by
    simp only [resultsOf] at h
    split at h
    · rename_i k hk
      split at h
      · rename_i v m' hv
        split at h
        · rename_i r hr
          cases h
          obtain ⟨vs, h1, h2⟩ := results_mapM hE hS hr
          cases hb : evo s.tm (.tmp b) with
          | none => rw [hb] at hv; cases hv
          | some p =>
            rw [hb] at hv
            obtain ⟨_, ad, u, g1, g2, g3⟩ := mLoad_sound (P := P) hS.mem (hE t _ hk) (evo_sound hS hb) hv
            refine ⟨u :: vs, ?_, .cons _ _ _ _ g3 h2⟩
            have g1' : a.tmps.getD b undef = .pointer (some ad) := g1
            simp only [List.mapM_cons, resVar, Sem.run_bind, Sem.run_pure, Result.andThen_ok, g1', asAddr, g2, h1]
        · cases h
      · cases h
    · cases h

theorem results_sound (hE : ∀ t i, E.ty t = some i → TyOk P t i) {s : St} {a : Act} {fn : Func} (hS : SRel c s a w) {ps : List PV} (h : resultsOf E s.tm s.me fn.results.toList = some ps) :
    ∃ v, (results fn a.tmps).run P w = .ok v w ∧ Rep c s.me w (oneOrTup ps) v := by
  obtain ⟨vs, h1, h2⟩ := results_mapM hE hS h
  refine ⟨if h : (⟨vs⟩ : Array Value).size = 1 then (⟨vs⟩ : Array Value)[0] else .tuple ⟨vs⟩, ?_, ?_⟩
  · rw [results_eq, Array.mapM_eq_mapM_toList, Sem.run_bind, Sem.run_map, h1]
    rfl
  · unfold oneOrTup
    split
    · obtain ⟨v, rfl, hv⟩ := h2.one
      simpa using hv
    · rename_i hne
      have hl := h2.length
      have : ¬ ((⟨vs⟩ : Array Value).size = 1) := by
        intro h1
        have : ps.length = 1 := by rw [← hl]; exact h1
        obtain ⟨x, rfl⟩ := List.length_eq_one_iff.1 this
        exact hne x rfl
      rw [dif_neg this]
      exact .tup _ _ h2

theorem bindArgs_get : ∀ {l : List PV} {vs : List Value} {i : Nat} {t : Tr PV}, Reps c m w l vs → ∀ k,
    (∀ p, (bindArgs i l t).get k = some p → (i ≤ k ∧ k < i + l.length ∧ Rep c m w p (vs.getD (k - i) undef)) ∨ t.get k = some p ∧ (k < i ∨ i + l.length ≤ k)) ∧
    ((bindArgs i l t).get k = none → t.get k = none ∧ (k < i ∨ i + l.length ≤ k))
  | [], _, i, t, .nil, k => ⟨fun p h => .inr ⟨h, by simp; omega⟩, fun h => ⟨h, by simp; omega⟩⟩
  | x :: xs, _, i, t, .cons _ v _ vs hx hs, k => by
    obtain ⟨h1, h2⟩ := bindArgs_get (i := i + 1) (t := t.set i x) hs k
    constructor
    · intro p hp
      rcases h1 p hp with ⟨e1, e2, e3⟩ | ⟨e1, e2⟩
      · refine .inl ⟨by omega, by simp; omega, ?_⟩
        rw [show k - i = (k - (i + 1)) + 1 from by omega]
        simpa using e3
      · by_cases hk : i = k
        · subst hk
          rw [Tr.get_set_same] at e1; cases e1
          exact .inl ⟨Nat.le_refl _, by simp, by simpa using hx⟩
        · rw [Tr.get_set_other _ _ hk] at e1
          exact .inr ⟨e1, by simp; omega⟩
    · intro hp
      obtain ⟨e1, e2⟩ := h2 hp
      by_cases hk : i = k
      · subst hk
        rw [Tr.get_set_same] at e1; cases e1
      · rw [Tr.get_set_other _ _ hk] at e1
        exact ⟨e1, by simp; omega⟩

theorem guards_leave (hok : EnvOk P K₀ E) {fn : Func} {tmps : Array Value} {R : Ending → World → Prop} {m : PM} :
    ∀ {ds : List (Nat × List PV)} {es : List Deferred} {c : Cx} {w : World}, guards E ds = true → DefsOk c m w ds es → (∀ B, c.S B → B < w.heap.size) → (∀ w', Grown w w' → ∃ v, (results fn tmps).run P w' = .ok v w' ∧ R (.returned v) w') → Leaves P fn tmps R es .returning w
  | [], [], _, w, _, _, _, hK => hK w .refl
  | (f, l) :: ds, e :: es, c, w, hg, ⟨⟨cap, args, he, hr⟩, hd⟩, hS, hK => by
    simp only [guards] at hg
    have hgf : E.guard f = true := by
      cases h : E.guard f with
      | true => rfl
      | false => rw [h] at hg; cases hg
    rw [hgf] at hg
    obtain ⟨g1, g2⟩ := hok.guard f hgf (args ++ cap) w
    subst he
    refine leaves_cons (by simp) g1 (g2.mono ?_)
    rintro e u' w' ⟨⟨v, rfl⟩, rfl, hgr⟩
    have hC : Carry c m w c m w' := ⟨rfl, fun B hB => ⟨hB, hgr.2.1 B (hS B hB)⟩, fun b x h1 h2 => ⟨h1, x, h2, Blk.le_refl x, fun _ => rfl⟩, fun B n ⟨arr, et, fz, h1, h2⟩ => ⟨arr, et, fz, by rw [hgr.2.1 B (Array.getElem?_eq_some_iff.1 h1).1]; exact h1, h2⟩⟩
    exact guards_leave hok hg (hd.carry hC) (fun B hB => Nat.lt_of_lt_of_le (hS B hB) hgr.1) fun w2 h2 => hK w2 (hgr.trans h2)
  | [], _ :: _, _, _, _, h, _, _ => h.elim
  | _ :: _, [], _, _, _, h, _, _ => h.elim

theorem run_callFunc {f : Nat} {fn : Func} {cd : Code} {vs : Array Value} (h : P.funcs[f]? = some fn) (hn : (fn.name == "runtime.NumGoroutine") = false) (hb : fn.body = some cd) : (callFunc f vs).run P w = .ok (.enter f vs) w := by
  have hn' : fn.name ≠ "runtime.NumGoroutine" := by simpa using hn
  unfold callFunc
  simp [h, hn', hb]

theorem evBody_sound (hok : EnvOk P K₀ E) (hcall : CallOk P K₀ call) (hdraw : DrawOk P K₀ E call) {N f : Nat} {args : List PV} {m m' : PM} {q : PV} (h : evBody E call N f args m = some (q, m')) {c : Cx} {w : World} {vs : List Value} (hk : K₀ c.ρ) (hM : MemRel c m w) (hr : Reps c m w args vs) :
    CallDoes P f vs w fun v w' => ∃ c', Ext c m w c' m' w' ∧ MemRel c' m' w' ∧ Rep c' m' w' q v := by
  unfold evBody at h
  split at h
  · cases h
  · rename_i fn hfn
    obtain ⟨hf, hn⟩ := hok.fn f fn hfn
    split at h
    · cases h
    · rename_i cd hb
      obtain ⟨h1, h2⟩ := bif_some h
      clear h
      have hle : args.length ≤ fn.ntmps := Nat.le_of_ble_eq_true h1
      refine .inl ⟨run_callFunc hf hn hb, calls_of_wp_defers hf hb ?_⟩
      have hlen := hr.length
      have hS : SRel c ⟨bindArgs 0 args .leaf, fn.ntmps, m, []⟩ { tmps := (⟨vs⟩ : Array Value) ++ Array.replicate (fn.ntmps - (⟨vs⟩ : Array Value).size) undef, defers := [] } w := by
        refine ⟨hM, ?_, ?_, by simp; omega, trivial⟩
        · intro t p hp
          rcases (bindArgs_get hr t).1 p hp with ⟨_, e2, e3⟩ | ⟨e1, _⟩
          · have : ((⟨vs⟩ : Array Value) ++ Array.replicate (fn.ntmps - (⟨vs⟩ : Array Value).size) undef).getD t undef = vs.getD (t - 0) undef := by
              rw [Array.getD_eq_getD_getElem?, Array.getElem?_append_left (by simp; omega)]
              simp
            rw [this]; exact e3
          · rw [Tr.get_leaf] at e1; cases e1
        · intro t hp
          obtain ⟨_, e2⟩ := (bindArgs_get (i := 0) (t := Tr.leaf) hr t).2 hp
          rw [Array.getD_eq_getD_getElem?, Array.getElem?_append_right (by simp; omega)]
          simp only [Array.getElem?_replicate]
          split <;> rfl
      split at h2
      · cases h2
      · rename_i x s hx he
        obtain ⟨h3, h4⟩ := bif_some h2
        clear h2
        split at h4
        · rename_i l hl
          cases h4
          refine wp_mono (evCode_sound hok.ty hcall hdraw N cd (hok.reg f fn cd hfn hb) hk hS he) ?_
          have fin : ∀ (a' : Act) (w' : World), (∃ c', Ext c m w c' s.me w' ∧ SRel c' s a' w') → Leaves P fn a'.tmps (fun e w' => ∃ v, e = .returned v ∧ ∃ c', Ext c m w c' s.me w' ∧ MemRel c' s.me w' ∧ Rep c' s.me w' (oneOrTup l) v) a'.defers .returning w' := by
            rintro a' w' ⟨c', hX, hS'⟩
            refine guards_leave hok h3 hS'.df hS'.mem.Slt fun w2 hg => ?_
            obtain ⟨hE2, hM2⟩ := hS'.mem.grown hg
            have hC := hE2.carry hS'.mem
            have hS2 : SRel c' s a' w2 := ⟨hM2, fun t p hp => (hS'.tm t p hp).carry hC, hS'.tn, hS'.nt, hS'.df.carry hC⟩
            obtain ⟨v, r1, r2⟩ := results_sound hok.ty hS2 hl
            exact ⟨v, r1, v, rfl, c', hX.trans hM hE2, hM2, r2⟩
          intro e a' w' hp
          cases e with
          | normal => exact fin a' w' hp.2
          | ret => exact fin a' w' hp.2
          | exit id => obtain ⟨h1, _⟩ := hp; subst h1; exact (hx id rfl).elim
          | panic ch => exact hp.elim
          | goto l => exact hp.elim
          | outgrown => exact hp.elim
        · cases h4
      · cases h2
end
end
end Go.Ab
/- Calls: values read out of memory, functions that run in a memory of their own. -/
namespace Go.Ab
section
variable {P : Program} {c c' : Cx} {m m' : PM} {w w' : World}

structure Stay (c : Cx) (w : World) (c' : Cx) (w' : World) : Prop where
  rho : c'.ρ = c.ρ
  S : ∀ B, c.S B → c'.S B ∧ w'.heap[B]? = w.heap[B]?
theorem Carry.stay (h : Carry c m w c' m' w') : Stay c w c' w' := ⟨h.rho, h.S⟩

mutual
theorem Rep.pure (h : Stay c w c' w') : ∀ {p : PV} {v : Value}, Rep c m w p v → flat p = true → Rep c' m' w' p v
  | _, _, .int k n, _ => .int k n
  | _, _, .bool b, _ => .bool b
  | _, _, .str l, _ => .str l
  | _, _, .anyS n s hs, _ => .anyS n s hs
  | _, _, .sym k e v hv, _ => .sym k e v (by
      have hfl : flat (c.ρ k e) = true := by
        rcases c.hρ k e with ⟨b, hb⟩ | hb | ⟨l, n, cp, hb⟩ <;> rw [hb] <;> rfl
      have := hv.pure h hfl
      rwa [h.rho])
  | _, _, .nilp, _ => .nilp
  | _, _, .nils, _ => .nils
  | _, _, .vsl0 len cp a k hc hl, _ => .vsl0 len cp a k hc hl
  | _, _, .vsl cs vs B o len cp k hf hS hat hr hc hl, _ => .vsl cs vs B o len cp k hf (h.S B hS).1 (hat.mono (h.S B hS).2) (hr.pure h hf) hc hl
  | _, _, .nilm, _ => .nilm
  | _, _, .nilf, _ => .nilf
  | _, _, .nili, _ => .nili
theorem Reps.pure (h : Stay c w c' w') : ∀ {p : List PV} {v : List Value}, Reps c m w p v → flats p = true → Reps c' m' w' p v
  | _, _, .nil, _ => .nil
  | _, _, .cons x v xs vs hx hs, hf => .cons x v xs vs (hx.pure h (flats_mem hf x (by simp))) (hs.pure h (flats_of fun y hy => flats_mem hf y (by simp [hy])))
end

/-- a value that does not look into the memory -/
def Solid (p : PV) : Prop := ∀ (c : Cx) (m : PM) (w : World) (c' : Cx) (m' : PM) (w' : World) (v : Value), Stay c w c' w' → Rep c m w p v → Rep c' m' w' p v
theorem solid_flat {p : PV} (h : flat p = true) : Solid p := fun _ _ _ _ _ _ _ hs hr => hr.pure hs h
theorem Reps.solid (h : Stay c w c' w') : ∀ {p : List PV} {v : List Value}, Reps c m w p v → (∀ x ∈ p, Solid x) → Reps c' m' w' p v
  | _, _, .nil, _ => .nil
  | _, _, .cons x v xs vs hx hs, hf => .cons x v xs vs (hf x (by simp) _ _ _ _ _ _ _ h hx) (hs.solid h fun y hy => hf y (by simp [hy]))

theorem ext_same (hM : MemRel c m w) (hg : ∀ k, m'.get k = m.get k) (hn : m'.next = m.next) : Ext c m w c m' w ∧ MemRel c m' w := by
  have hmut : ∀ k, Mut m' k → Mut m k := by
    rintro k ⟨x, h1, h2⟩
    rw [hg] at h1
    exact ⟨x, h1, h2⟩
  have hE : Ext c m w c m' w := {
    size := Nat.le_refl _
    old := fun _ _ _ => rfl
    rho := rfl
    S1 := fun _ h => h
    S2 := fun _ h => .inl h
    L1 := fun _ h => h
    L2 := fun _ h => .inl h
    blk := fun k x _ hx => ⟨x, by rw [hg]; exact hx, Blk.le_refl x, fun _ => rfl⟩
    unl := fun k _ _ => hg k
    next := by omega
    mut' := fun b h hm => .inr ⟨b, h, hmut b hm, rfl⟩
    room := fun _ arr _ fz h => ⟨arr, fz, h, rfl⟩
    os := ⟨rfl, rfl, rfl⟩ }
  have hC := hE.carry hM
  refine ⟨hE, ⟨fun b hb => by rw [hg]; exact hM.fresh b (by omega), fun b hb => by rw [hg]; exact hM.dom b hb, fun b x hL hx => ?_, fun b b' h1 h2 h3 h4 => hM.inj b b' h1 h2 h3 (hmut b h4), hM.Slt, fun b h1 h2 => hM.Smut b h1 (hmut b h2)⟩⟩
  rw [hg] at hx
  exact (hM.blk b x hL hx).carry hC rfl rfl

def RfOk (f : PM → PV → Option (PV × PM)) : Prop := ∀ {m m' : PM} {p r : PV}, f m p = some (r, m') → ∀ {c : Cx} {w : World} {v : Value}, MemRel c m w → Rep c m w p v →
  ∃ c', Ext c m w c' m' w ∧ MemRel c' m' w ∧ Rep c' m' w r v ∧ Solid r

theorem reifysW_sound {f : PM → PV → Option (PV × PM)} (hf : RfOk f) : ∀ {xs r : List PV} {m m' : PM}, reifysW f m xs = some (r, m') → ∀ {c : Cx} {vs : List Value}, MemRel c m w → Reps c m w xs vs →
    ∃ c', Ext c m w c' m' w ∧ MemRel c' m' w ∧ Reps c' m' w r vs ∧ ∀ x ∈ r, Solid x
  | [], _, _, _, h, c, vs, hM, hr => by
    cases h; cases hr
    exact ⟨c, .refl, hM, .nil, fun x hx => by cases hx⟩
  | x :: xs, r, m, m', h, c, _, hM, .cons _ v _ vs hx hs => by
    simp only [reifysW] at h
    cases hfl : flat x with
    | true =>
      rw [hfl] at h
      simp only [cond_true] at h
      split at h
      · rename_i l' m1 hl
        cases h
        obtain ⟨c1, e1, e2, e3, e4⟩ := reifysW_sound hf hl hM hs
        refine ⟨c1, e1, e2, .cons _ _ _ _ (hx.pure (e1.carry hM).stay hfl) e3, fun y hy => ?_⟩
        rcases List.mem_cons.1 hy with rfl | hy
        · exact solid_flat hfl
        · exact e4 y hy
      · cases h
    | false =>
      rw [hfl] at h
      simp only [cond_false] at h
      split at h
      · rename_i y m1 hy
        split at h
        · rename_i l' m2 hl
          cases h
          obtain ⟨c1, e1, e2, e3, e4⟩ := hf hy hM hx
          obtain ⟨c2, f1, f2, f3, f4⟩ := reifysW_sound hf hl e2 (hs.carry (e1.carry hM))
          refine ⟨c2, e1.trans hM f1, f2, .cons _ _ _ _ (e4 _ _ _ _ _ _ _ (f1.carry e2).stay e3) f3, fun z hz => ?_⟩
          rcases List.mem_cons.1 hz with rfl | hz
          · exact e4
          · exact f4 z hz
        · cases h
      · cases h

theorem freeze_sound {b g et : Nat} {cs : List PV} {frz : Bool} (hM : MemRel c m w) (hL : c.L b) (hb : m.get b = some (.cells cs g frz et)) :
    ∃ c', Ext c m w c' (m.upd b (.cells cs g true et)) w ∧ MemRel c' (m.upd b (.cells cs g true et)) w ∧ c'.S (c.β b) := by
  obtain ⟨arr, fz, vs, h1, h2, h3, h4, h5⟩ := hM.blk b _ hL hb
  cases frz with
  | true =>
    obtain ⟨e1, e2⟩ := ext_same (m' := m.upd b (.cells cs g true et)) hM (fun k => by
      rw [PM.get_upd]
      split
      · rename_i e; subst e; exact hb.symm
      · rfl) rfl
    exact ⟨c, e1, e2, h5 rfl⟩
  | false =>
    obtain ⟨e1, e2⟩ := ext_frz (blk' := .cells cs g true et) (w' := w) hM hL hb rfl rfl ⟨Nat.le_refl _, rfl⟩ rfl (fun _ _ => rfl) (fun arr _ fz h => ⟨arr, fz, h, rfl⟩) ⟨rfl, rfl, rfl⟩
      (fun hC => ⟨arr, fz, vs, h1, h2.carry hC, h3, fun e => (by cases e), fun _ => .inr rfl⟩)
    exact ⟨_, e1, e2, .inr rfl⟩

theorem reify_sound : ∀ (d : Nat), RfOk (reify d)
  | 0, _, _, _, _, h, _, _, _, _, _ => by cases h
  | d + 1, m, m', p, r, h, c, w, v, hM, hr => by
    unfold reify at h
    cases p
    case msl b g off n sz =>
      simp only at h
      split at h
      · rename_i cs g' frz et hb
        obtain ⟨h1, h2⟩ := bif_some h
        clear h
        cases beq_t h1
        split at h2
        · rename_i l hl
          split at h2
          · rename_i l' m2 hl'
            obtain ⟨h3, h4⟩ := bif_some h2
            cases h4
            cases hr with
            | msl _ _ _ _ _ blk a k hL hb' hgg hle hk ha =>
            rw [hb] at hb'; cases hb'
            obtain ⟨vs, e1, e2, e3⟩ := blk_cells hM hL hb hl
            obtain ⟨c1, f1, f2, f3⟩ := freeze_sound hM hL hb
            obtain ⟨c2, g1, g2, g3, g4⟩ := reifysW_sound (reify_sound d) hl' f2 (e1.carry (f1.carry hM))
            have hst := (g1.carry f2).stay
            refine ⟨c2, f1.trans hM g1, g2, ?_, solid_flat rfl⟩
            by_cases h0 : 0 < k
            · rw [(ha rfl).1 h0]
              exact .vsl l' vs _ _ n none k h3 (hst.S _ f3).1 e2 g3 (fun x hx => by cases hx) hle
            · have hn : n = 0 := by omega
              subst hn
              have hvs : vs = [] := List.eq_nil_of_length_eq_zero (by simpa using e3)
              subst hvs
              cases g3
              exact .vsl0 _ _ _ _ (fun x hx => by cases hx) hle
          · cases h2
        · cases h2
      · cases h
    case agg cs =>
      simp only at h
      split at h
      · rename_i l m1 hl
        cases h
        cases hr with
        | agg _ vs hs =>
        obtain ⟨c1, e1, e2, e3, e4⟩ := reifysW_sound (reify_sound d) hl hM hs
        refine ⟨c1, e1, e2, .agg _ _ e3, ?_⟩
        intro c m w c' m' w' v hst hr
        cases hr with
        | agg _ us hus => exact .agg _ _ (hus.solid hst e4)
      · cases h
    case tup cs =>
      simp only at h
      split at h
      · rename_i l m1 hl
        cases h
        cases hr with
        | tup _ vs hs =>
        obtain ⟨c1, e1, e2, e3, e4⟩ := reifysW_sound (reify_sound d) hl hM hs
        refine ⟨c1, e1, e2, .tup _ _ e3, ?_⟩
        intro c m w c' m' w' v hst hr
        cases hr with
        | tup _ us hus => exact .tup _ _ (hus.solid hst e4)
      · cases h
    case clo f a b =>
      cases a <;> cases b <;> simp only at h
      case nil.nil =>
        cases h
        refine ⟨c, .refl, hM, hr, ?_⟩
        intro c m w c' m' w' v hst hr
        cases hr with
        | clo _ _ _ as bs ha hb => cases ha; cases hb; exact .clo _ _ _ _ _ .nil .nil
      all_goals (obtain ⟨h1, _⟩ := bif_some h; cases h1)
    case ifc t x =>
      obtain ⟨h1, h2⟩ := bif_some h
      cases h2
      refine ⟨c, .refl, hM, hr, ?_⟩
      intro c m w c' m' w' v hst hr
      cases hr with
      | ifc _ _ u hu => exact .ifc _ _ _ (hu.pure hst h1)
    all_goals
      obtain ⟨h1, h2⟩ := bif_some h
      cases h2
      exact ⟨c, .refl, hM, hr, solid_flat h1⟩

/-- a value that is the same everywhere -/
def Free (p : PV) : Prop := ∀ (c : Cx) (m : PM) (w : World) (c' : Cx) (m' : PM) (w' : World) (v : Value), Rep c m w p v → Rep c' m' w' p v
theorem free_flat {p : PV} (h : flat p = true) (h1 : refs1 p = false) : Free p := by
  intro c m w c' m' w' v hr
  cases hr <;> first | (cases h; done) | (cases h1; done) | skip
  case int => exact .int _ _
  case bool => exact .bool _
  case str => exact .str _
  case anyS n s hs => exact .anyS _ _ hs
  case nilp => exact .nilp
  case nils => exact .nils
  case nilm => exact .nilm
  case nilf => exact .nilf
  case nili => exact .nili
theorem Reps.free : ∀ {p : List PV} {v : List Value}, Reps c m w p v → (∀ x ∈ p, Free x) → Reps c' m' w' p v
  | _, _, .nil, _ => .nil
  | _, _, .cons x v xs vs hx hs, hf => .cons x v xs vs (hf x (by simp) _ _ _ _ _ _ _ hx) (hs.free fun y hy => hf y (by simp [hy]))
theorem refsL_mem : ∀ {l : List PV}, refsL l = false → ∀ x ∈ l, refs1 x = false
  | [], _, _, h => by cases h
  | y :: l, h, x, hx => by
    simp only [refsL] at h
    cases hy : refs1 y with
    | true => rw [hy] at h; cases h
    | false =>
      rw [hy] at h
      rcases List.mem_cons.1 hx with rfl | hx
      · exact hy
      · exact refsL_mem h x hx
theorem reify_free1 {d : Nat} {p r : PV} (h : reify d m p = some (r, m')) (hr : refs1 r = false) : Free r := by
  cases d with
  | zero => cases h
  | succ d =>
    unfold reify at h
    cases p
    case msl b g off n sz =>
      simp only at h
      split at h
      · obtain ⟨_, h2⟩ := bif_some h
        split at h2
        · split at h2
          · obtain ⟨_, h4⟩ := bif_some h2
            cases h4; cases hr
          · cases h2
        · cases h2
      · cases h
    case agg cs =>
      simp only at h
      split at h
      · cases h; cases hr
      · cases h
    case tup cs =>
      simp only at h
      split at h
      · cases h; cases hr
      · cases h
    case clo f a b =>
      cases a <;> cases b <;> simp only at h
      case nil.nil =>
        cases h
        intro c m w c' m' w' v hr
        cases hr with
        | clo _ _ _ as bs ha hb => cases ha; cases hb; exact .clo _ _ _ _ _ .nil .nil
      all_goals (obtain ⟨h1, _⟩ := bif_some h; cases h1)
    case ifc t x =>
      obtain ⟨_, h2⟩ := bif_some h
      cases h2; cases hr
    all_goals
      obtain ⟨h1, h2⟩ := bif_some h
      cases h2
      exact free_flat h1 hr
theorem reifysW_free {d : Nat} : ∀ {xs r : List PV} {m m' : PM}, reifysW (reify d) m xs = some (r, m') → refsL r = false → ∀ x ∈ r, Free x
  | [], _, _, _, h, _, x, hx => by cases h; cases hx
  | y :: ys, r, m, m', h, hr, x, hx => by
    simp only [reifysW] at h
    cases hfl : flat y with
    | true =>
      rw [hfl] at h
      simp only [cond_true] at h
      split at h
      · rename_i l' m1 hl
        cases h
        rcases List.mem_cons.1 hx with rfl | hx
        · exact free_flat hfl (refsL_mem hr _ (by simp))
        · exact reifysW_free hl (by simp only [refsL, refsL_mem hr y (by simp)] at hr; exact hr) x hx
      · cases h
    | false =>
      rw [hfl] at h
      simp only [cond_false] at h
      split at h
      · rename_i z m1 hz
        split at h
        · rename_i l' m2 hl
          cases h
          rcases List.mem_cons.1 hx with rfl | hx
          · exact reify_free1 hz (refsL_mem hr _ (by simp))
          · exact reifysW_free hl (by simp only [refsL, refsL_mem hr z (by simp)] at hr; exact hr) x hx
        · cases h
      · cases h
theorem reify_free {d : Nat} {p r : PV} (h : reify d m p = some (r, m')) (hr : refs r = false) : Free r := by
  by_cases h1 : refs1 r = false
  · exact reify_free1 h h1
  · cases d with
    | zero => cases h
    | succ d =>
      unfold reify at h
      cases p
      case agg cs =>
        simp only at h
        split at h
        · rename_i l m1 hl
          cases h
          intro c m w c' m' w' v hv
          cases hv with
          | agg _ vs hs => exact .agg _ _ (hs.free (reifysW_free hl hr))
        · cases h
      case tup cs =>
        simp only at h
        split at h
        · rename_i l m1 hl
          cases h
          intro c m w c' m' w' v hv
          cases hv with
          | tup _ vs hs => exact .tup _ _ (hs.free (reifysW_free hl hr))
        · cases h
      case msl b g off n sz =>
        simp only at h
        split at h
        · obtain ⟨_, h2⟩ := bif_some h
          split at h2
          · split at h2
            · obtain ⟨_, h4⟩ := bif_some h2
              cases h4; cases hr
            · cases h2
          · cases h2
        · cases h
      case clo f a b =>
        cases a <;> cases b <;> simp only at h
        case nil.nil => cases h; exact absurd rfl h1
        all_goals (obtain ⟨h1, _⟩ := bif_some h; cases h1)
      case ifc t x =>
        obtain ⟨_, h2⟩ := bif_some h
        cases h2; cases hr
      all_goals
        obtain ⟨h3, h2⟩ := bif_some h
        cases h2
        first | (cases h3; done) | (cases hr; done) | exact absurd rfl h1

theorem CallDoes.mono {f : Nat} {vs : List Value} {R R' : Value → World → Prop} (h : CallDoes P f vs w R) (hr : ∀ v w', R v w' → R' v w') : CallDoes P f vs w R' := by
  rcases h with ⟨h1, h2⟩ | ⟨v, w', h1, h2⟩
  · exact .inl ⟨h1, h2.mono fun e w' ⟨v, he, hv⟩ => ⟨v, he, hr v w' hv⟩⟩
  · exact .inr ⟨v, w', h1, hr v w' h2⟩
end
theorem reifysW_flats {f : PM → PV → Option (PV × PM)} : ∀ {xs : List PV} {m : PM}, flats xs = true → reifysW f m xs = some (xs, m)
  | [], _, _ => rfl
  | x :: xs, m, h => by
    have h1 := flats_mem h x (by simp)
    have h2 : flats xs = true := flats_of fun y hy => flats_mem h y (by simp [hy])
    simp only [reifysW, h1, cond_true, reifysW_flats h2]
def PureOk (E : Env) (call : Nat → List PV → PM → Option (PV × PM)) : Prop :=
  ∀ f l, pureCall E f l = true → ∀ m v m2, call f l m = some (v, m2) → ∀ m', call f l m' = some (v, m')
theorem evCall_pure (E : Env) (N : Nat) : ∀ n, PureOk E (evCall E N n)
  | 0 => fun f l _ m v m2 h => by cases h
  | n + 1 => by
    intro f l hp m v m2 h m'
    unfold pureCall at hp
    unfold evCall at h ⊢
    cases hg : E.ext f with
    | some g =>
      rw [hg] at h hp
      simp only at hp
      simp only [hp, cond_true] at h ⊢
      split at h
      · rename_i r hr
        cases h
        rfl
      · cases h
    | none =>
      rw [hg] at h hp
      simp only at hp
      obtain ⟨hp1, hp2⟩ := and_t hp
      cases hs : E.same f with
      | true =>
        rw [hs] at h
        simp only [cond_true] at h ⊢
        cases hx : E.extM f with
        | some g =>
          rw [hx] at h
          simp only [hp1, cond_true] at h
          cases h
        | none =>
        rw [hx] at h
        simp only at h ⊢
        split at h
        · cases h; rfl
        · cases h
      | false =>
      rw [hs] at h
      simp only [cond_false] at h ⊢
      cases hi : E.iso f with
      | false => rw [hi] at hp1; cases hp1
      | true =>
        rw [hi] at h
        simp only [cond_true, reifysW_flats hp2] at h ⊢
        split at h
        · rename_i r m3 hb
          split at h
          · rename_i r' m4 hre
            cases h
            cases refs v <;> rfl
          · cases h
        · cases h
end Go.Ab
/- Calls: by induction on the depth of calls. -/
namespace Go.Ab
section
variable {P : Program} {E : Env} {K₀ : (Nat → List Int → PV) → Prop}

theorem PM.get_empty (k : Nat) : PM.empty.get k = none := rfl

theorem evCall_sound (hok : EnvOk P K₀ E) (hdraw : ∀ call, CallOk P K₀ call → PureOk E call → DrawOk P K₀ E call) (N : Nat) : ∀ n, CallOk P K₀ (evCall E N n)
  | 0 => fun f l m q m' h => by cases h
  | n + 1 => by
    have ih := evCall_sound hok hdraw N n
    intro f l m q m' h c w vs hk hM hr
    unfold evCall at h
    split at h
    · rename_i g hg
      obtain ⟨h1, h2⟩ := bif_some h
      split at h2
      · rename_i r hgr
        cases h2
        exact hok.ext f g hg l _ h1 hgr c _ w vs hk hM hr
      · cases h2
    · cases hs : E.same f with
      | true =>
        rw [hs] at h
        simp only [cond_true] at h
        cases hx : E.extM f with
        | some g =>
          rw [hx] at h
          simp only at h
          cases hi : E.iso f with
          | true => rw [hi] at h; cases h
          | false =>
            rw [hi] at h
            exact hok.extM f g hx l m q m' h c w vs hk hM hr
        | none =>
        rw [hx] at h
        simp only at h
        split at h
        · cases h
          obtain ⟨v, rfl, hv⟩ := hr.one
          exact .inr ⟨v, w, hok.same f hs hx v w, c, .refl, hM, hv⟩
        · cases h
      | false =>
        rw [hs] at h
        simp only [cond_false] at h
        cases hi : E.iso f with
        | false =>
          rw [hi] at h
          exact evBody_sound hok ih (hdraw _ ih (evCall_pure E N n)) h hk hM hr
        | true =>
          rw [hi] at h
          simp only [cond_true] at h
          split at h
          · rename_i as m1 has
            split at h
            · rename_i r m2 hb
              split at h
              · rename_i r' m3 hre
                cases h
                obtain ⟨c1, e1, e2, e3, e4⟩ := reifysW_sound (reify_sound 11) has hM hr
                let ci : Cx := { c1 with L := fun _ => False }
                have hst : Stay c1 w ci w := ⟨rfl, fun B hB => ⟨hB, rfl⟩⟩
                have hMi : MemRel ci PM.empty w := ⟨fun b _ => PM.get_empty b, fun b hb => hb.elim, fun b _ hb => hb.elim, fun b b' hb => hb.elim, e2.Slt, fun b hb => hb.elim⟩
                have hri : Reps ci PM.empty w as vs := e3.solid hst e4
                refine (evBody_sound hok ih (hdraw _ ih (evCall_pure E N n)) hb (show K₀ ci.ρ from (by rw [e1.rho]; exact hk : K₀ c1.ρ)) hMi hri).mono ?_
                rintro v w' ⟨c2, f1, f2, f3⟩
                obtain ⟨c3, g1, g2, g3, g4⟩ := reify_sound 12 hre f2 f3
                have hX : Ext ci PM.empty w c3 m3 w' := f1.trans hMi g1
                have hold : ∀ B, B < w.heap.size → w'.heap[B]? = w.heap[B]? := fun B hB => hX.old B hB fun b hb => hb.elim
                have hgr : Grown w w' := ⟨hX.size, hold, hX.os⟩
                cases hrf : refs q with
                | false =>
                  obtain ⟨k1, k2⟩ := hM.grown hgr
                  exact ⟨c, k1, k2, reify_free hre hrf _ _ _ _ _ _ _ g3⟩
                | true =>
                  let cf : Cx := { c1 with S := c3.S }
                  have hS2 : ∀ B, c3.S B → c1.S B ∨ w.heap.size ≤ B := fun B hB => by
                    rcases hX.S2 B hB with h | h | ⟨b, hb, _⟩
                    · exact .inl h
                    · exact .inr h
                    · exact hb.elim
                  have hE : Ext c1 m1 w cf m1 w' := {
                    size := hX.size
                    old := fun B hB _ => hold B hB
                    rho := rfl
                    S1 := fun B hB => hX.S1 B hB
                    S2 := fun B hB => (hS2 B hB).elim .inl fun h => .inr (.inl h)
                    L1 := fun _ h => h
                    L2 := fun _ h => .inl h
                    blk := fun _ x _ h => ⟨x, h, Blk.le_refl x, fun _ => rfl⟩
                    unl := fun _ _ _ => rfl
                    next := Nat.le_refl _
                    mut' := fun b h hm => .inr ⟨b, h, hm, rfl⟩
                    room := fun B arr et fz h => ⟨arr, fz, by rw [hold B (Array.getElem?_eq_some_iff.1 h).1]; exact h, rfl⟩
                    os := hX.os }
                  have hC := hE.carry e2
                  have hMf : MemRel cf m1 w' := ⟨e2.fresh, e2.dom, fun b x hL hx => (e2.blk b x hL hx).carry hC rfl (hold _ (Mut.lt e2 hL)), e2.inj, g2.Slt, fun b hL hmu hS => by
                    rcases hS2 _ hS with h | h
                    · exact e2.Smut b hL hmu h
                    · have := Mut.lt e2 hL
                      have e : cf.β b = c1.β b := rfl
                      rw [e] at h; omega⟩
                  have hst3 : Stay c3 w' cf w' := ⟨hX.rho.symm, fun B hB => ⟨hB, rfl⟩⟩
                  exact ⟨cf, e1.trans hM hE, hMf, g4 _ _ _ _ _ _ _ hst3 g3⟩
              · cases h
            · cases h
          · cases h
end
end Go.Ab
/- Regions that draw their order. -/
namespace Go.Ab

theorem eqE_eq : ∀ {a b : List Int}, eqE a b = true → a = b
  | [], [], _ => rfl
  | x :: xs, y :: ys, h => by
    simp only [eqE] at h
    obtain ⟨h1, h2⟩ := and_t h
    rw [intEq_eq] at h1
    rw [eq_of_beq h1, eqE_eq h2]
  | [], _ :: _, h => by cases h
  | _ :: _, [], h => by cases h
mutual
theorem eqPV_eq : ∀ {x y : PV}, eqPV x y = true → x = y
  | .int k a, .int k' b, h => by
    simp only [eqPV] at h
    obtain ⟨h1, h2⟩ := and_t h
    cases kindNo_inj h1
    rw [intEq_eq] at h2
    rw [eq_of_beq h2]
  | .bool a, .bool b, h => by cases a <;> cases b <;> first | rfl | cases h
  | .str a, .str b, h => by
    simp only [eqPV, bytesEq_eq] at h
    rw [eq_of_beq h]
  | .nilp, .nilp, _ => rfl
  | .nils, .nils, _ => rfl
  | .nilm, .nilm, _ => rfl
  | .nilf, .nilf, _ => rfl
  | .nili, .nili, _ => rfl
  | .anyS a, .anyS b, h => by
    simp only [eqPV] at h
    cases beq_t h; rfl
  | .sym k e, .sym k' e', h => by
    simp only [eqPV] at h
    obtain ⟨h1, h2⟩ := and_t h
    cases beq_t h1; cases eqE_eq h2; rfl
  | .ptr b g o, .ptr b' g' o', h => by
    simp only [eqPV] at h
    obtain ⟨h1, h2⟩ := and_t h
    obtain ⟨h3, h4⟩ := and_t h2
    cases beq_t h1; cases beq_t h3; cases beq_t h4; rfl
  | .msl b g o n z, .msl b' g' o' n' z', h => by
    simp only [eqPV] at h
    obtain ⟨h1, h2⟩ := and_t h
    obtain ⟨h3, h4⟩ := and_t h2
    obtain ⟨h5, h6⟩ := and_t h4
    obtain ⟨h7, h8⟩ := and_t h6
    cases beq_t h1; cases beq_t h3; cases beq_t h5; cases beq_t h7; cases beq_t h8; rfl
  | .map b, .map b', h => by
    simp only [eqPV] at h
    cases beq_t h; rfl
  | .vsl cs n c, .vsl cs' n' c', h => by
    simp only [eqPV] at h
    obtain ⟨h1, h2⟩ := and_t h
    obtain ⟨h3, h4⟩ := and_t h2
    cases beq_t h1
    cases eqPVs_eq h3
    cases c <;> cases c' <;> simp only [] at h4
    · rfl
    · cases h4
    · cases h4
    · cases beq_t h4; rfl
theorem eqPVs_eq : ∀ {x y : List PV}, eqPVs x y = true → x = y
  | [], [], _ => rfl
  | x :: xs, y :: ys, h => by
    simp only [eqPVs] at h
    obtain ⟨h1, h2⟩ := and_t h
    rw [eqPV_eq h1, eqPVs_eq h2]
  | [], _ :: _, h => by cases h
  | _ :: _, [], h => by cases h
end


section
variable {P : Program} {c : Cx} {m : PM} {w w' : World}

/-- a block that was kept ahead is laid -/
theorem ext_lay {b : Nat} {o : Obj} {blk : Blk} {c0 : Cx} {m0 : PM} {w0 : World} (hM0 : MemRel c0 m0 w0) (hX : Ext c0 m0 w0 c m w) (hM : MemRel c m w) (hb0 : m0.next ≤ b) (hbL : ¬ c.L b) (hb : m.get b = some blk)
    (hh : w'.heap = w.heap.push o) (hos : w'.os = w.os ∧ w'.output = w.output ∧ w'.tape = w.tape) (hnew : Carry c m w (c.move b w.heap.size) m w' → BlkAt (c.move b w.heap.size) m w' b blk) :
    Ext c0 m0 w0 (c.move b w.heap.size) m w' ∧ MemRel (c.move b w.heap.size) m w' ∧ Carry c m w (c.move b w.heap.size) m w' := by
  have hold : ∀ B, B < w.heap.size → w'.heap[B]? = w.heap[B]? := fun B hB => by rw [hh, Array.getElem?_push]; simp; omega
  have hne : ∀ k, c.L k → k ≠ b := fun k hk e => hbL (e ▸ hk)
  have hC : Carry c m w (c.move b w.heap.size) m w' := {
    rho := rfl
    S := fun B hB => ⟨hB, hold B (hM.Slt B hB)⟩
    L := fun k x hk hx => ⟨.inl hk, x, hx, Blk.le_refl x, fun _ => move_β' c (hne k hk)⟩
    room := fun B n ⟨arr, et, fz, h1, h2⟩ => ⟨arr, et, fz, by rw [hold B (Array.getElem?_eq_some_iff.1 h1).1]; exact h1, h2⟩ }
  refine ⟨?_, ?_, hC⟩
  · exact {
      size := by rw [hh, Array.size_push]; have := hX.size; omega
      old := fun B hB hn => by rw [hold B (Nat.lt_of_lt_of_le hB hX.size)]; exact hX.old B hB hn
      rho := hX.rho
      S1 := hX.S1
      S2 := hX.S2
      L1 := fun k hk => .inl (hX.L1 k hk)
      L2 := fun k hk => by
        rcases hk with hk | rfl
        · exact hX.L2 k hk
        · exact .inr hb0
      blk := fun k x hk hx => by
        obtain ⟨y, h1, h2, h3⟩ := hX.blk k x hk hx
        exact ⟨y, h1, h2, fun e => by rw [move_β' c (by have := L_lt hM0 hk; omega)]; exact h3 e⟩
      unl := hX.unl
      next := hX.next
      mut' := fun k hk hmk => by
        by_cases e : k = b
        · subst e; exact .inl (by rw [move_β]; exact hX.size)
        · rw [move_β' c e]; exact hX.mut' k (hk.resolve_right e) hmk
      room := fun B arr et fz h => by
        obtain ⟨a', f', h1, h2⟩ := hX.room B arr et fz h
        exact ⟨a', f', by rw [hold B (Array.getElem?_eq_some_iff.1 h1).1]; exact h1, h2⟩
      os := ⟨hos.1.trans hX.os.1, hos.2.1.trans hX.os.2.1, hos.2.2.trans hX.os.2.2⟩ }
  · refine ⟨hM.fresh, ?_, ?_, ?_, ?_, ?_⟩
    · intro k hk
      rcases hk with hk | rfl
      · exact hM.dom k hk
      · exact ⟨_, hb⟩
    · intro k x hk hx
      by_cases e : k = b
      · subst e; rw [hb] at hx; cases hx; exact hnew hC
      · have hk' := hk.resolve_right e
        exact (hM.blk k x hk' hx).carry hC (move_β' c e) (hold _ (Mut.lt hM hk'))
    · intro k k' hk hk' hkk hmk
      by_cases e : k = b
      · subst e
        have e' : k' ≠ k := fun h => hkk h.symm
        rw [move_β, move_β' c e']
        have := Mut.lt hM (hk'.resolve_right e'); omega
      · rw [move_β' c e]
        by_cases e' : k' = b
        · subst e'
          rw [move_β]
          have := Mut.lt hM (hk.resolve_right e); omega
        · rw [move_β' c e']
          exact hM.inj k k' (hk.resolve_right e) (hk'.resolve_right e') hkk hmk
    · intro B hB
      rw [hh, Array.size_push]; have := hM.Slt B hB; omega
    · intro k hk hmk hS
      by_cases e : k = b
      · subst e; rw [move_β] at hS; have := hM.Slt _ hS; omega
      · rw [move_β' c e] at hS
        exact hM.Smut k (hk.resolve_right e) hmk hS

/-- blocks are kept ahead -/
theorem ext_pre {m' : PM} (hM : MemRel c m w) (hg : ∀ k, k < m.next → m'.get k = m.get k) (hf : ∀ k, m'.next ≤ k → m'.get k = none) (hn : m.next ≤ m'.next) : Ext c m w c m' w ∧ MemRel c m' w := by
  have hmut : ∀ b, c.L b → (Mut m' b ↔ Mut m b) := fun b hL => by
    unfold Mut; rw [hg b (L_lt hM hL)]
  have hE : Ext c m w c m' w := {
    size := Nat.le_refl _
    old := fun B _ _ => rfl
    rho := rfl
    S1 := fun _ h => h
    S2 := fun _ h => .inl h
    L1 := fun _ h => h
    L2 := fun _ h => .inl h
    blk := fun b x hL h => ⟨x, by rw [hg b (L_lt hM hL)]; exact h, Blk.le_refl x, fun _ => rfl⟩
    unl := fun b _ hb => hg b hb
    next := hn
    mut' := fun b h hm => .inr ⟨b, h, (hmut b h).1 hm, rfl⟩
    room := fun B arr et fz h => ⟨arr, fz, h, rfl⟩
    os := ⟨rfl, rfl, rfl⟩ }
  have hC := hE.carry hM
  exact ⟨hE, ⟨hf, fun b hL => by rw [hg b (L_lt hM hL)]; exact hM.dom b hL, fun b x hL hx => (hM.blk b x hL (by rw [← hg b (L_lt hM hL)]; exact hx)).carry hC rfl rfl, fun b b' h h' hn hm => hM.inj b b' h h' hn ((hmut b h).1 hm), hM.Slt, fun b hL hm => hM.Smut b hL ((hmut b hL).1 hm)⟩⟩

theorem put_facts {s s' : St} {dst : Option Nat} {v : PV} {m' : PM} (h : put s dst v m' = some s') :
    s'.me = m' ∧ s'.nt = s.nt ∧ s'.df = s.df ∧ (∀ d, dst = some d → s'.tm.get d = some v ∧ d < s.nt) ∧ ∀ t, dst ≠ some t → s'.tm.get t = s.tm.get t := by
  unfold put at h
  split at h
  · rename_i d
    obtain ⟨h1, h2⟩ := bif_some h
    cases h2
    have hd : d < s.nt := by simp [Nat.blt] at h1; omega
    refine ⟨rfl, rfl, rfl, ?_, ?_⟩
    · intro d' e; cases e; exact ⟨Tr.get_set_same _ _ _, hd⟩
    · intro t ht; exact Tr.get_set_other _ _ (fun e => ht (by rw [e]))
  · cases h
    exact ⟨rfl, rfl, rfl, fun d e => (by cases e), fun _ _ => rfl⟩

/-! ### order -/
def Bef (bs : List Nat) (i j : Nat) : Prop := ∃ p, nthN bs j = some p ∧ Nat.testBit p i = true
theorem ordered_lt {bs : List Nat} {i j : Nat} (hij : i < j) : (ordered bs i j = true → Bef bs i j) ∧ (ordered bs j i = true → Bef bs i j) := by
  constructor
  · intro h
    unfold ordered at h
    have e : Nat.blt i j = true := by simp [Nat.blt]; omega
    rw [e] at h
    simp only [cond_true] at h
    split at h
    · rename_i p hp; exact ⟨p, hp, h⟩
    · cases h
  · intro h
    unfold ordered at h
    have e : Nat.blt j i = false := by
      cases e : Nat.blt j i with
      | false => rfl
      | true => simp [Nat.blt] at e; omega
    rw [e] at h
    simp only [cond_false] at h
    split at h
    · rename_i p hp; exact ⟨p, hp, h⟩
    · cases h
theorem mask_spec {prev : List Nat} {x : Nat} : ∀ {es : List Edge}, Nat.testBit (maskOf prev es) x = true → ∃ e ∈ es, Region.binds .any e = true ∧ ∃ p, nthN prev e.on = some p ∧ (x = e.on ∨ Nat.testBit p x = true)
  | [], h => by simp [maskOf] at h
  | e :: es, h => by
    simp only [maskOf] at h
    cases hb : Region.binds .any e with
    | false =>
      rw [hb] at h
      obtain ⟨e', h1, h2⟩ := mask_spec (es := es) h
      exact ⟨e', by simp [h1], h2⟩
    | true =>
      rw [hb] at h
      simp only [cond_true] at h
      split at h
      · rename_i p hp
        rw [show Nat.lor (Nat.lor (Nat.pow 2 e.on) p) (maskOf prev es) = (2 ^ e.on ||| p) ||| maskOf prev es from rfl, Nat.testBit_or, Nat.testBit_or, Nat.testBit_two_pow] at h
        simp only [Bool.or_eq_true, decide_eq_true_eq] at h
        rcases h with (h | h) | h
        · exact ⟨e, by simp, hb, p, hp, .inl h.symm⟩
        · exact ⟨e, by simp, hb, p, hp, .inr h⟩
        · obtain ⟨e', h1, h2⟩ := mask_spec (es := es) h
          exact ⟨e', by simp [h1], h2⟩
      · obtain ⟨e', h1, h2⟩ := mask_spec (es := es) h
        exact ⟨e', by simp [h1], h2⟩
theorem befs_spec : ∀ {os : List Oper} {prev : List Nat}, (∀ x, x < prev.length → nthN (befs prev os) x = nthN prev x) ∧
    ∀ k o, os[k]? = some o → ∀ x, Bef (befs prev os) x (prev.length + k) → ∃ e ∈ o.after.toList, Region.binds .any e = true ∧ e.on < prev.length + k ∧ (x = e.on ∨ Bef (befs prev os) x e.on)
  | [], prev => ⟨fun _ _ => rfl, fun k o h => by simp at h⟩
  | o :: os, prev => by
    obtain ⟨ih1, ih2⟩ := befs_spec (os := os) (prev := prev ++ [maskOf prev o.after.toList])
    have e : befs prev (o :: os) = befs (prev ++ [maskOf prev o.after.toList]) os := rfl
    have hold : ∀ x, x < prev.length → nthN (befs prev (o :: os)) x = nthN prev x := fun x hx => by
      rw [e, ih1 x (by simp; omega), nthN_eq, nthN_eq, List.getElem?_append_left hx]
    refine ⟨hold, ?_⟩
    intro k oo hk x hx
    cases k with
    | zero =>
      simp at hk; subst hk
      obtain ⟨p, hp, hx⟩ := hx
      rw [e, ih1 _ (by simp), nthN_eq, Nat.add_zero, List.getElem?_append_right (by simp)] at hp
      simp at hp
      subst hp
      obtain ⟨ed, h1, h2, q, h3, h4⟩ := mask_spec hx
      have hlt : ed.on < prev.length := by
        rw [nthN_eq] at h3
        exact (List.getElem?_eq_some_iff.1 h3).1
      refine ⟨ed, h1, h2, by omega, ?_⟩
      rcases h4 with h4 | h4
      · exact .inl h4
      · exact .inr ⟨q, by rw [hold _ hlt]; exact h3, h4⟩
    | succ k =>
      rw [List.getElem?_cons_succ] at hk
      have e2 : prev.length + (k + 1) = (prev ++ [maskOf prev o.after.toList]).length + k := by simp; omega
      rw [e2] at hx ⊢
      exact ih2 k oo hk x hx


/-! ### the static check -/
structure RegOk (ops : Array Oper) (bs : List Nat) : Prop where
  edge : ∀ i o, ops[i]? = some o → ∀ e ∈ o.after.toList, Region.binds .any e = true → e.on < i
  look : ∀ i o t, ops[i]? = some o → (.tmp t ∈ o.op.operands ∨ ∃ j k oj, o.guard = some (j, k) ∧ ops[j]? = some oj ∧ oj.dst = some t) → ∀ j o', ops[j]? = some o' → o'.dst = some t → i = j ∨ (i < j ∧ Bef bs i j) ∨ (j < i ∧ Bef bs j i)
  uniq : ∀ (i j : Nat) (o o' : Oper) (d : Nat), ops[i]? = some o → ops[j]? = some o' → o.dst = some d → o'.dst = some d → i = j
theorem memN_mem {d : Nat} : ∀ {ts : List Nat}, d ∈ ts → memN d ts = true
  | [], h => by cases h
  | t :: ts, h => by
    simp only [memN]
    cases hb : Nat.beq d t with
    | true => rfl
    | false =>
      rcases List.mem_cons.1 h with h | h
      · exact absurd h (nbeq hb)
      · exact memN_mem h
theorem tmpsOf_mem {t : Nat} : ∀ {l : List Operand}, Operand.tmp t ∈ l → t ∈ tmpsOf l
  | [], h => by cases h
  | x :: l, h => by
    rcases List.mem_cons.1 h with h | h
    · subst h; simp [tmpsOf]
    · have := tmpsOf_mem h
      cases x <;> simp [tmpsOf, this]
theorem regDst_spec {bs : List Nat} {i : Nat} {ts : List Nat} {t : Nat} (ht : t ∈ ts) : ∀ {os : List Oper} {j : Nat}, regDst bs i ts j os = true → ∀ k o, os[k]? = some o → o.dst = some t → i = j + k ∨ ordered bs i (j + k) = true
  | [], _, _, k, o, hk, _ => by simp at hk
  | o :: os, j, h, k, o', hk, hd => by
    simp only [regDst] at h
    obtain ⟨h1, h2⟩ := and_t h
    cases k with
    | zero =>
      simp at hk; subst hk
      have e : dstIn o ts = true := by
        unfold dstIn; rw [hd]; exact memN_mem ht
      rw [e] at h1
      simp only [cond_true] at h1
      cases hb : Nat.beq i j with
      | true => exact .inl (beq_t hb)
      | false => rw [hb] at h1; exact .inr h1
    | succ k =>
      rw [List.getElem?_cons_succ] at hk
      have := regDst_spec ht h2 k o' hk hd
      have e : j.succ + k = j + (k + 1) := by omega
      rwa [e] at this
theorem regUniq_spec {d : Nat} : ∀ {os : List Oper}, regUniq d os = true → ∀ o ∈ os, o.dst ≠ some d
  | [], _, o, h => by cases h
  | o :: os, h, o', ho => by
    simp only [regUniq] at h
    obtain ⟨h1, h2⟩ := and_t h
    rcases List.mem_cons.1 ho with ho | ho
    · subst ho
      intro e
      rw [e] at h1
      simp at h1
    · exact regUniq_spec h2 o' ho
theorem regEdges_spec {i : Nat} : ∀ {es : List Edge}, regEdges i es = true → ∀ e ∈ es, Region.binds .any e = true → e.on < i
  | [], _, e, h, _ => by cases h
  | e :: es, h, e', he, hb => by
    simp only [regEdges] at h
    obtain ⟨h1, h2⟩ := and_t h
    rcases List.mem_cons.1 he with he | he
    · subst he
      rw [hb] at h1
      simp [Nat.blt] at h1; omega
    · exact regEdges_spec h2 e' he hb
theorem regOps_spec {bs : List Nat} {all : List Oper} : ∀ {os : List Oper} {i : Nat}, regOps bs all i os = true → all.drop i = os → ∀ k o, os[k]? = some o →
    regEdges (i + k) o.after.toList = true ∧ regDst bs (i + k) (tmpsOf o.op.operands.toList) 0 all = true ∧ regDst bs (i + k) (guardTmp all o) 0 all = true ∧ ∀ d, o.dst = some d → ∀ o' ∈ all.drop (i + k + 1), o'.dst ≠ some d
  | [], _, _, _, k, o, hk => by simp at hk
  | o :: os, i, h, hd, k, o', hk => by
    simp only [regOps] at h
    obtain ⟨h1, h⟩ := and_t h
    obtain ⟨h2, h⟩ := and_t h
    obtain ⟨h3, h⟩ := and_t h
    obtain ⟨h4, h5⟩ := and_t h
    have hd' : all.drop (i + 1) = os := by
      have : (all.drop i).drop 1 = os := by rw [hd]; rfl
      rwa [List.drop_drop] at this
    cases k with
    | zero =>
      simp at hk; subst hk
      refine ⟨h1, h2, h3, fun d hdd => ?_⟩
      rw [hdd] at h4
      rw [Nat.add_zero, hd']
      exact regUniq_spec h4
    | succ k =>
      rw [List.getElem?_cons_succ] at hk
      have := regOps_spec (os := os) (i := i + 1) h5 hd' k o' hk
      have e : i + 1 + k = i + (k + 1) := by omega
      rwa [e] at this
theorem regOk_spec {ops : Array Oper} (h : regOk ops.toList = true) : RegOk ops (befs [] ops.toList) := by
  have key := fun k o hk => regOps_spec (os := ops.toList) (i := 0) h rfl k o hk
  have get : ∀ {i : Nat} {o : Oper}, ops[i]? = some o → ops.toList[i]? = some o := fun h => by rw [Array.getElem?_toList]; exact h
  have fin : ∀ {i j : Nat}, i = 0 + j ∨ ordered (befs [] ops.toList) i (0 + j) = true → i = j ∨ (i < j ∧ Bef (befs [] ops.toList) i j) ∨ (j < i ∧ Bef (befs [] ops.toList) j i) := fun {i j} h => by
    rw [Nat.zero_add] at h
    rcases h with h | h
    · exact .inl h
    · rcases Nat.lt_trichotomy i j with h' | h' | h'
      · exact .inr (.inl ⟨h', (ordered_lt h').1 h⟩)
      · exact .inl h'
      · exact .inr (.inr ⟨h', (ordered_lt h').2 h⟩)
  refine ⟨?_, ?_, ?_⟩
  · intro i o hi e he hb
    have := (key i o (get hi)).1
    rw [Nat.zero_add] at this
    exact regEdges_spec this e he hb
  · intro i o t hi hl j o' hj hd
    obtain ⟨_, k1, k2, _⟩ := key i o (get hi)
    rw [Nat.zero_add] at k1 k2
    rcases hl with hl | ⟨jg, kg, og, hg, hjg, hdg⟩
    · exact fin (regDst_spec (tmpsOf_mem (by simpa using hl)) k1 j o' (get hj) hd)
    · refine fin (regDst_spec ?_ k2 j o' (get hj) hd)
      unfold guardTmp
      rw [hg]
      simp only [nthN_eq, get hjg, hdg]
      simp
  · have lt : ∀ (i j : Nat) (o o' : Oper) (d : Nat), i < j → ops[i]? = some o → ops[j]? = some o' → o.dst = some d → o'.dst ≠ some d := by
      intro i j o o' d hij hi hj hd
      refine (key i o (get hi)).2.2.2 d hd o' ?_
      rw [List.mem_iff_getElem?]
      refine ⟨j - (i + 1), ?_⟩
      rw [List.getElem?_drop, show 0 + i + 1 + (j - (i + 1)) = j by omega]
      exact get hj
    intro i j o o' d hi hj hd hd'
    rcases Nat.lt_trichotomy i j with h | h | h
    · exact absurd hd' (lt i j o o' d h hi hj hd)
    · exact h
    · exact absurd hd (lt j i o' o d h hj hi hd')

/-! ### the listed run -/
section
variable {E : Env} {K₀ : (Nat → List Int → PV) → Prop} {call : Nat → List PV → PM → Option (PV × PM)}
inductive DStep (E : Env) (call : Nat → List PV → PM → Option (PV × PM)) (all : List Oper) (tr : List Tri) (i : Nat) (o : Oper) (pr : Option PV) (s s' : St) : Prop
  | skip (hg : guardOk s.tm all o.guard = some false) (hp : put s o.dst undefPV s.me = some s')
  | alloc (p : PV) (hg : guardOk s.tm all o.guard = some true) (hpr : pr = some p) (hp : put s o.dst p s.me = some s')
  | oper (t : Option Tri) (v : PV) (m : PM) (hg : guardOk s.tm all o.guard = some true) (hpr : pr = none) (hd : drOper E call i s o = some (t, some (v, m))) (hp : put s o.dst v m = some s') (ht : ∀ x, t = some x → x ∈ tr)
theorem DStep.mono {all : List Oper} {tr tr' : List Tri} {i : Nat} {o : Oper} {pr : Option PV} {s s' : St} (h : DStep E call all tr i o pr s s') (ht : ∀ x ∈ tr, x ∈ tr') : DStep E call all tr' i o pr s s' := by
  cases h with
  | skip hg hp => exact .skip hg hp
  | alloc p hg hpr hp => exact .alloc p hg hpr hp
  | oper t v m hg hpr hd hp h => exact .oper t v m hg hpr hd hp fun x hx => ht x (h x hx)

theorem drOps_run {all : List Oper} : ∀ {os : List Oper} {i : Nat} {prs : List (Option PV)} {s s1 : St} {tr tr1 : List Tri}, drOps E call all i prs os s tr = some (s1, tr1) →
    (∀ x ∈ tr, x ∈ tr1) ∧ ∃ st : Nat → St, st i = s ∧ st (i + os.length) = s1 ∧ ∀ k o, os[k]? = some o → ∃ pr, prs[k]? = some pr ∧ DStep E call all tr1 (i + k) o pr (st (i + k)) (st (i + k + 1))
  | [], i, prs, s, s1, tr, tr1, h => by
    simp only [drOps] at h
    cases h
    exact ⟨fun _ h => h, fun _ => s, rfl, rfl, fun k o hk => by simp at hk⟩
  | o :: os, i, [], s, s1, tr, tr1, h => by simp only [drOps] at h; cases h
  | o :: os, i, pr :: prs, s, s1, tr, tr1, h => by
    have step : ∀ {s' : St} {tr' : List Tri}, drOps E call all (Nat.succ i) prs os s' tr' = some (s1, tr1) → (∀ x ∈ tr, x ∈ tr') → DStep E call all tr' i o pr s s' →
        (∀ x ∈ tr, x ∈ tr1) ∧ ∃ st : Nat → St, st i = s ∧ st (i + (o :: os).length) = s1 ∧ ∀ k o', (o :: os)[k]? = some o' → ∃ pr', (pr :: prs)[k]? = some pr' ∧ DStep E call all tr1 (i + k) o' pr' (st (i + k)) (st (i + k + 1)) := by
      intro s' tr' h1 h2 h3
      obtain ⟨r1, st, r2, r3, r4⟩ := drOps_run (os := os) h1
      refine ⟨fun x hx => r1 x (h2 x hx), fun k => if k ≤ i then s else st k, by simp, ?_, ?_⟩
      · show (if i + (o :: os).length ≤ i then s else st (i + (o :: os).length)) = s1
        rw [if_neg (by simp)]
        have e : i.succ + os.length = i + (o :: os).length := by simp; omega
        rw [← e]; exact r3
      · intro k o' hk
        cases k with
        | zero =>
          simp at hk; subst hk
          refine ⟨pr, rfl, ?_⟩
          simp only [Nat.add_zero, Nat.le_refl, if_true]
          rw [if_neg (by omega)]
          have e : st (i + 1) = s' := r2
          rw [e]
          exact h3.mono r1
        | succ k =>
          rw [List.getElem?_cons_succ] at hk
          obtain ⟨pr', h5, h6⟩ := r4 k o' hk
          refine ⟨pr', by rw [List.getElem?_cons_succ]; exact h5, ?_⟩
          show DStep E call all tr1 (i + (k + 1)) o' pr' (if i + (k + 1) ≤ i then s else st (i + (k + 1))) (if i + (k + 1) + 1 ≤ i then s else st (i + (k + 1) + 1))
          rw [if_neg (by omega), if_neg (by omega)]
          have e : i.succ + k = i + (k + 1) := by omega
          rwa [e] at h6
    simp only [drOps] at h
    split at h
    · rename_i hg
      split at h
      · rename_i p
        split at h
        · rename_i s' hs'
          exact step h (fun _ h => h) (.alloc p hg rfl hs')
        · cases h
      · split at h
        · rename_i t r hd
          unfold put2 at h
          split at h
          · rename_i s' hs'
            split at hs'
            · rename_i v m
              refine step h ?_ (.oper t v m hg rfl hd hs' ?_)
              · intro x hx
                cases t with
                | none => exact hx
                | some t => exact List.mem_cons_of_mem _ hx
              · intro x hx
                subst hx
                simp
            · cases hs'
          · cases h
        · cases h
    · rename_i hg
      split at h
      · rename_i s' hs'
        exact step h (fun _ h => h) (.skip hg hs')
      · cases h
    · cases h

theorem okOne_spec {bs : List Nat} {x : Tri} : ∀ {l : List Tri}, okOne bs x l = true → ∀ y ∈ l, okPair bs x y = true
  | [], _, y, h => by cases h
  | z :: l, h, y, hy => by
    simp only [okOne] at h
    obtain ⟨h1, h2⟩ := and_t h
    rcases List.mem_cons.1 hy with rfl | hy
    · exact h1
    · exact okOne_spec h2 y hy
theorem okAll_spec {bs : List Nat} : ∀ {l : List Tri}, okAll bs l = true → ∀ x ∈ l, ∀ y ∈ l, x ≠ y → okPair bs x y = true ∨ okPair bs y x = true
  | [], _, x, h, _, _, _ => by cases h
  | z :: l, h, x, hx, y, hy, hne => by
    simp only [okAll] at h
    obtain ⟨h1, h2⟩ := and_t h
    rcases List.mem_cons.1 hx with hxz | hxl
    · rcases List.mem_cons.1 hy with hyz | hyl
      · exact absurd (hxz.trans hyz.symm) hne
      · rw [hxz]; exact .inl (okOne_spec h1 y hyl)
    · rcases List.mem_cons.1 hy with hyz | hyl
      · rw [hyz]; exact .inr (okOne_spec h1 x hxl)
      · exact okAll_spec h2 x hxl y hyl hne

/-- what is kept ahead for a region's variables -/
structure PreOk (E : Env) (ops : List Oper) (prs : List (Option PV)) (m mA : PM) : Prop where
  next : m.next ≤ mA.next
  old : ∀ k, k < m.next → mA.get k = m.get k
  fresh : (∀ k, m.next ≤ k → m.get k = none) → ∀ k, mA.next ≤ k → mA.get k = none
  at' : ∀ (i : Nat) (p : PV), prs[i]? = some (some p) → ∃ (t b : Nat) (kd : TK) (sz : Nat) (z : List PV), p = .ptr b 0 0 ∧ m.next ≤ b ∧ b < mA.next ∧ E.ty t = some ⟨kd, sz, some z⟩ ∧ mA.get b = some (.cells z 0 false t) ∧ ∃ o : Oper, ops[i]? = some o ∧ o.op = .alloc t ∧ o.guard = none
  apart : ∀ (i j b : Nat), prs[i]? = some (some (PV.ptr b 0 0)) → prs[j]? = some (some (PV.ptr b 0 0)) → i = j
theorem PM.next_new (m : PM) (b : Blk) : (m.new b).next = m.next + 1 := rfl
theorem preA_spec : ∀ {ops : List Oper} {m mA : PM} {prs : List (Option PV)}, preA E ops m = some (prs, mA) → PreOk E ops prs m mA
  | [], m, mA, prs, h => by
    simp only [preA] at h
    cases h
    exact ⟨Nat.le_refl _, fun _ _ => rfl, fun h => h, fun i p h => by simp at h, fun i j b h => by simp at h⟩
  | o :: os, m, mA, prs, h => by
    have skip : ∀ {l : List (Option PV)}, preA E os m = some (l, mA) → PreOk E (o :: os) (none :: l) m mA := by
      intro l hl
      obtain ⟨h1, h2, h3, h4, h5⟩ := preA_spec hl
      refine ⟨h1, h2, h3, ?_, ?_⟩
      · intro i p hi
        cases i with
        | zero => simp at hi
        | succ i =>
          rw [List.getElem?_cons_succ] at hi
          obtain ⟨t, b, kd, sz, z, a1, a2, a3, a4, a5, o', a6, a7⟩ := h4 i p hi
          exact ⟨t, b, kd, sz, z, a1, a2, a3, a4, a5, o', by rw [List.getElem?_cons_succ]; exact a6, a7⟩
      · intro i j b hi hj
        cases i with
        | zero => simp at hi
        | succ i => cases j with
          | zero => simp at hj
          | succ j =>
            rw [List.getElem?_cons_succ] at hi hj
            rw [h5 i j b hi hj]
    simp only [preA] at h
    split at h
    · rename_i t ho
      split at h
      · rename_i hgd
        split at h
        · rename_i p m' hal
          split at h
          · rename_i l m'' hl
            cases h
            unfold mAlloc at hal
            split at hal
            · rename_i kd sz z hty
              cases hal
              obtain ⟨h1, h2, h3, h4, h5⟩ := preA_spec hl
              rw [PM.next_new] at h1 h2 h3
              have hget : mA.get m.next = some (.cells z 0 false t) := by
                rw [h2 _ (by omega), PM.get_new, if_pos rfl]
              have hge : ∀ (i b : Nat), l[i]? = some (some (PV.ptr b 0 0)) → m.next < b := fun i b hi => by
                obtain ⟨_, b', _, _, _, e, hb, _⟩ := h4 i _ hi
                cases e
                rw [PM.next_new] at hb; omega
              refine ⟨by omega, ?_, ?_, ?_, ?_⟩
              · intro k hk
                rw [h2 k (by omega), PM.get_new, if_neg (by omega)]
              · intro hf
                refine h3 fun k hk => ?_
                rw [PM.get_new, if_neg (by omega)]
                exact hf k (by omega)
              · intro i p hi
                cases i with
                | zero =>
                  simp at hi; subst hi
                  exact ⟨t, m.next, kd, sz, z, rfl, Nat.le_refl _, by omega, hty, hget, o, rfl, ho, hgd⟩
                | succ i =>
                  rw [List.getElem?_cons_succ] at hi
                  obtain ⟨t, b, kd, sz, z, a1, a2, a3, a4, a5, o', a6, a7⟩ := h4 i p hi
                  rw [PM.next_new] at a2
                  exact ⟨t, b, kd, sz, z, a1, by omega, a3, a4, a5, o', by rw [List.getElem?_cons_succ]; exact a6, a7⟩
              · intro i j b hi hj
                cases i with
                | zero =>
                  simp at hi; subst hi
                  cases j with
                  | zero => rfl
                  | succ j =>
                    rw [List.getElem?_cons_succ] at hj
                    have := hge j _ hj; omega
                | succ i =>
                  rw [List.getElem?_cons_succ] at hi
                  cases j with
                  | zero =>
                    simp at hj; subst hj
                    have := hge i _ hi; omega
                  | succ j =>
                    rw [List.getElem?_cons_succ] at hj
                    rw [h5 i j b hi hj]
            · cases hal
          · cases h
        · cases h
      · cases h
    · split at h
      · rename_i l m' hl
        cases h
        exact skip hl
      · cases h

theorem drOper_cases {i : Nat} {s : St} {o : Oper} {t : Option Tri} {v : PV} {m' : PM} (h : drOper E call i s o = some (t, some (v, m'))) :
    (∃ f l m2, callOf (evo s.tm) o.op = some (some (f, l)) ∧ pureCall E f l = true ∧ call f l s.me = some (v, m2) ∧ m' = s.me) ∨
    (∃ f l, callOf (evo s.tm) o.op = some (some (f, l)) ∧ call f l s.me = some (v, m') ∧ t = some (.wr i s.me m')) ∨
    (∃ ty a k p, o.op = .load ty a ∧ E.ty ty = some k ∧ evo s.tm a = some p ∧ t = some (.rd i p k.sz) ∧ mLoad (some k) s.me (some p) = some (v, m')) ∨
    (t = some (.wr i s.me m') ∧ evOp E (evo s.tm) s.me o.op = some (v, m')) ∨
    (m' = s.me ∧ ∀ m2, evOp E (evo s.tm) m2 o.op = some (v, m2)) := by
  unfold drOper at h
  split at h
  · rename_i f l hc
    split at h
    · rename_i v' m2 hm
      cases hp : pureCall E f l with
      | true =>
        rw [hp] at h
        cases h
        exact .inl ⟨f, l, m2, hc, hp, hm, rfl⟩
      | false =>
        rw [hp] at h
        cases h
        exact .inr (.inl ⟨f, l, hc, hm, rfl⟩)
    · cases h
  · cases h
  · split at h
    · cases h
    · rename_i ty a ho
      split at h
      · rename_i k hk
        split at h
        · rename_i p hp
          simp only [Option.some.injEq, Prod.mk.injEq] at h
          exact .inr (.inr (.inl ⟨ty, a, k, p, ho, hk, hp, h.1.symm, h.2⟩))
        · cases h
      · cases h
    · rename_i op hnd hnl
      cases hb : isM o.op with
      | true =>
        rw [hb] at h
        simp only [cond_true] at h
        split at h
        · rename_i v' m2 hm
          cases h
          refine .inr (.inr (.inr (.inl ⟨rfl, ?_⟩)))
          unfold evOp
          rw [hb]
          exact hm
        · cases h
      | false =>
        rw [hb] at h
        simp only [cond_false] at h
        split at h
        · rename_i v' hv
          cases h
          refine .inr (.inr (.inr (.inr ⟨rfl, fun m2 => ?_⟩)))
          unfold evOp
          rw [hb, hv]
          rfl
        · cases h

theorem mLoad_mem {k : TI} {m m' : PM} {p v : PV} (h : mLoad (some k) m (some p) = some (v, m')) : m' = m ∧ ∀ m2, ldCells m2 (some p) k.sz = ldCells m (some p) k.sz → mLoad (some k) m2 (some p) = some (v, m2) := by
  simp only [mLoad] at h ⊢
  cases hc : ldCells m (some p) k.sz with
  | none => rw [hc] at h; cases h
  | some cs =>
    rw [hc] at h
    cases hg : k.agg with
    | true =>
      rw [hg] at h
      cases h
      exact ⟨rfl, fun m2 h2 => by rw [h2]; rfl⟩
    | false =>
      rw [hg] at h
      simp only [cond_false] at h
      match cs, h with
      | [c], h =>
        cases h
        exact ⟨rfl, fun m2 h2 => by rw [h2]; rfl⟩
theorem sameRead_eq {m m' : PM} {p : PV} {n : Nat} (h : sameRead m m' p n = true) : ldCells m (some p) n = ldCells m' (some p) n := by
  unfold sameRead at h
  split at h
  · rename_i a ha
    split at h
    · rename_i b hb
      rw [ha, hb, eqPVs_eq h]
    · cases h
  · cases h

/-- the listed run of a region -/
structure DRun (E : Env) (call : Nat → List PV → PM → Option (PV × PM)) (ops : Array Oper) (s s1 : St) (mA : PM) (st : Nat → St) (prs : List (Option PV)) (tr : List Tri) : Prop where
  h0 : st 0 = ⟨s.tm, s.nt, mA, s.df⟩
  hn : st ops.size = s1
  step : ∀ i o, ops[i]? = some o → ∃ pr, prs[i]? = some pr ∧ DStep E call ops.toList tr i o pr (st i) (st (i + 1))
  pair : ∀ x ∈ tr, ∀ y ∈ tr, x ≠ y → okPair (befs [] ops.toList) x y = true ∨ okPair (befs [] ops.toList) y x = true
  pre : PreOk E ops.toList prs s.me mA
  reg : RegOk ops (befs [] ops.toList)
theorem evDraw_run {ops : Array Oper} {s s1 : St} (hreg : regOk ops.toList = true) (h : evDraw E call ops.toList s = some s1) : ∃ mA st prs tr, DRun E call ops s s1 mA st prs tr := by
  unfold evDraw at h
  split at h
  · rename_i prs mA hpre
    split at h
    · rename_i s' tr hdr
      obtain ⟨_, st, r1, r2, r3⟩ := drOps_run hdr
      have fin : s' = s1 → (∀ x ∈ tr, ∀ y ∈ tr, x ≠ y → okPair (befs [] ops.toList) x y = true ∨ okPair (befs [] ops.toList) y x = true) → ∃ mA st prs tr, DRun E call ops s s1 mA st prs tr := by
        intro e hp
        refine ⟨mA, st, prs, tr, r1, by rw [← e, ← r2]; simp, ?_, hp, preA_spec hpre, regOk_spec hreg⟩
        intro i o hi
        have := r3 i o (by rw [Array.getElem?_toList]; exact hi)
        rwa [Nat.zero_add] at this
      split at h
      · cases h
        exact fin rfl fun x hx => by cases hx
      · rename_i z
        cases h
        refine fin rfl fun x hx y hy hne => ?_
        simp at hx hy
        exact absurd (hx.trans hy.symm) hne
      · obtain ⟨h1, h2⟩ := bif_some h
        cases h2
        exact fin rfl (okAll_spec h1)
    · cases h
  · cases h

section
variable {ops : Array Oper} {s s1 : St} {mA : PM} {st : Nat → St} {prs : List (Option PV)} {tr : List Tri}
/-- the operation wrote -/
def Wr (st : Nat → St) (i : Nat) : Prop := (st (i + 1)).me ≠ (st i).me
theorem DRun.wr_or {i : Nat} : Wr st i ∨ (st (i + 1)).me = (st i).me := (Classical.em _).symm
theorem DRun.wr_tr (R : DRun E call ops s s1 mA st prs tr) {i : Nat} {o : Oper} (hi : ops[i]? = some o) (hw : Wr st i) : Tri.wr i (st i).me (st (i + 1)).me ∈ tr := by
  obtain ⟨pr, _, hs⟩ := R.step i o hi
  cases hs with
  | skip hg hp => exact absurd (put_facts hp).1 hw
  | alloc p hg hpr hp => exact absurd (put_facts hp).1 hw
  | oper t v m hg hpr hd hp ht =>
    have hm := (put_facts hp).1
    rcases drOper_cases hd with ⟨f, l, m2, _, _, _, h4⟩ | ⟨f, l, _, _, h3⟩ | ⟨ty, a, k, p, _, _, _, _, h5⟩ | ⟨h1, _⟩ | ⟨h1, _⟩
    · exact absurd (hm.trans h4) hw
    · rw [hm]; exact ht _ h3
    · exact absurd (hm.trans (mLoad_mem h5).1) hw
    · rw [hm]; exact ht _ h1
    · exact absurd (hm.trans h1) hw
theorem DRun.me_same (R : DRun E call ops s s1 mA st prs tr) {i : Nat} : ∀ {n : Nat}, i + n ≤ ops.size → (∀ j, i ≤ j → j < i + n → ¬ Wr st j) → (st (i + n)).me = (st i).me
  | 0, _, _ => rfl
  | n + 1, hn, h => by
    have hlt : i + n < ops.size := by omega
    rcases DRun.wr_or (st := st) (i := i + n) with h' | h'
    · exact absurd h' (h _ (by omega) (by omega))
    · rw [← R.me_same (n := n) (by omega) fun j h1 h2 => h j h1 (by omega)]
      exact h'
theorem DRun.rd_same (R : DRun E call ops s s1 mA st prs tr) {p : PV} {k : Nat} {i : Nat} : ∀ {n : Nat}, i + n ≤ ops.size → (∀ j, i ≤ j → j < i + n → Wr st j → sameRead (st j).me (st (j + 1)).me p k = true) → ldCells (st (i + n)).me (some p) k = ldCells (st i).me (some p) k
  | 0, _, _ => rfl
  | n + 1, hn, h => by
    have hlt : i + n < ops.size := by omega
    rw [← R.rd_same (n := n) (by omega) fun j h1 h2 => h j h1 (by omega)]
    rcases DRun.wr_or (st := st) (i := i + n) with h' | h'
    · exact (sameRead_eq (h _ (by omega) (by omega) h')).symm
    · show ldCells (st (i + n + 1)).me (some p) k = _
      rw [h']
theorem DRun.tm_same (R : DRun E call ops s s1 mA st prs tr) {t : Nat} {i : Nat} : ∀ {n : Nat}, i + n ≤ ops.size → (∀ j o, i ≤ j → j < i + n → ops[j]? = some o → o.dst ≠ some t) → (st (i + n)).tm.get t = (st i).tm.get t
  | 0, _, _ => rfl
  | n + 1, hn, h => by
    have hlt : i + n < ops.size := by omega
    rw [← R.tm_same (n := n) (by omega) fun j o h1 h2 => h j o h1 (by omega)]
    have hne := h (i + n) _ (by omega) (by omega) (Array.getElem?_eq_getElem hlt)
    obtain ⟨pr, _, hs⟩ := R.step (i + n) _ (Array.getElem?_eq_getElem hlt)
    cases hs with
    | skip hg hp => exact (put_facts hp).2.2.2.2 t hne
    | alloc p hg hpr hp => exact (put_facts hp).2.2.2.2 t hne
    | oper tt v m hg hpr hd hp ht => exact (put_facts hp).2.2.2.2 t hne
theorem DRun.put_at (R : DRun E call ops s s1 mA st prs tr) {i : Nat} {o : Oper} (hi : ops[i]? = some o) {d : Nat} (hd : o.dst = some d) : (∃ p, (st (i + 1)).tm.get d = some p) := by
  obtain ⟨pr, _, hs⟩ := R.step i o hi
  cases hs with
  | skip hg hp => exact ⟨_, ((put_facts hp).2.2.2.1 d hd).1⟩
  | alloc p hg hpr hp => exact ⟨_, ((put_facts hp).2.2.2.1 d hd).1⟩
  | oper t v m hg hpr hdd hp ht => exact ⟨_, ((put_facts hp).2.2.2.1 d hd).1⟩
theorem DRun.nt (R : DRun E call ops s s1 mA st prs tr) : ∀ {n : Nat}, n ≤ ops.size → (st n).nt = s.nt ∧ (st n).df = s.df
  | 0, _ => by rw [R.h0]; exact ⟨rfl, rfl⟩
  | n + 1, hn => by
    have hlt : n < ops.size := by omega
    obtain ⟨h1, h2⟩ := R.nt (n := n) (by omega)
    obtain ⟨pr, _, hs⟩ := R.step n _ (Array.getElem?_eq_getElem hlt)
    have key : ∀ {v : PV} {m' : PM} {dst : Option Nat}, put (st n) dst v m' = some (st (n + 1)) → (st (n + 1)).nt = s.nt ∧ (st (n + 1)).df = s.df := fun hp => by
      obtain ⟨_, e1, e2, _⟩ := put_facts hp
      exact ⟨e1.trans h1, e2.trans h2⟩
    cases hs with
    | skip hg hp => exact key hp
    | alloc p hg hpr hp => exact key hp
    | oper t v m hg hpr hd hp ht => exact key hp

/-- the state after the operations D -/
structure DInv (c0 : Cx) (w0 : World) (ops : Array Oper) (s : St) (mA : PM) (st : Nat → St) (prs : List (Option PV)) (D : Nat → Prop) (k : Nat) (c : Cx) (a : Act) (w : World) : Prop where
  le : k ≤ ops.size
  wr : ∀ j, j < ops.size → Wr st j → (D j ↔ j < k)
  mem : MemRel c (st k).me w
  ext : Ext c0 s.me w0 c (st k).me w
  nt : a.tmps.size = s.nt
  df : DefsOk c (st k).me w s.df a.defers
  new : ∀ j o d, ops[j]? = some o → D j → o.dst = some d → ∀ p, (st (j + 1)).tm.get d = some p → Rep c (st k).me w p (a.tmps.getD d undef)
  old : ∀ t, (∀ j o, ops[j]? = some o → D j → o.dst ≠ some t) → (∀ p, s.tm.get t = some p → Rep c (st k).me w p (a.tmps.getD t undef)) ∧ (s.tm.get t = none → a.tmps.getD t undef = undef)
  lay : ∀ (j b : Nat), prs[j]? = some (some (PV.ptr b 0 0)) → b < (st k).me.next ∧ (c.L b ↔ D j) ∧ (¬ D j → (st k).me.get b = mA.get b)

theorem DInv.put {c0 : Cx} {w0 : World} {D D' : Nat → Prop} {k k' : Nat} {c c' : Cx} {a : Act} (J : DInv c0 w0 ops s mA st prs D k c a w) (R : DRun E call ops s s1 mA st prs tr) {i : Nat} {o : Oper} {v : Value} (hi : ops[i]? = some o) (hD : ∀ j, D' j ↔ D j ∨ j = i)
    (hC : Carry c (st k).me w c' (st k').me w') (hX : Ext c0 s.me w0 c' (st k').me w') (hM : MemRel c' (st k').me w') (hle : k' ≤ ops.size) (hwr : ∀ j, j < ops.size → Wr st j → (D' j ↔ j < k'))
    (hlay : ∀ (j b : Nat), prs[j]? = some (some (PV.ptr b 0 0)) → b < (st k').me.next ∧ (c'.L b ↔ D' j) ∧ (¬ D' j → (st k').me.get b = mA.get b))
    (hv : ∀ d p, o.dst = some d → (st (i + 1)).tm.get d = some p → Rep c' (st k').me w' p v) : DInv c0 w0 ops s mA st prs D' k' c' (a.put o.dst v) w' := by
  have hput : ∀ d, o.dst = some d → (a.put o.dst v).tmps.getD d undef = v := fun d hd => by
    have hlt : d < a.tmps.size := by
      rw [J.nt]
      obtain ⟨pr, _, hs⟩ := R.step i o hi
      have hnt := (R.nt (n := i) (Nat.le_of_lt (Array.getElem?_eq_some_iff.1 hi).1)).1
      rw [← hnt]
      cases hs with
      | skip hg hp => exact ((put_facts hp).2.2.2.1 d hd).2
      | alloc p hg hpr hp => exact ((put_facts hp).2.2.2.1 d hd).2
      | oper t v m hg hpr hdd hp ht => exact ((put_facts hp).2.2.2.1 d hd).2
    rw [hd]
    simp [Act.put, hlt]
  have hoth : ∀ t, o.dst ≠ some t → (a.put o.dst v).tmps.getD t undef = a.tmps.getD t undef := fun t ht => by
    cases hd : o.dst with
    | none => rfl
    | some d =>
      have hne : d ≠ t := fun e => ht (by rw [hd, e])
      simp [Act.put, Array.getElem?_setIfInBounds, hne]
  refine ⟨hle, hwr, hM, hX, ?_, ?_, ?_, ?_, hlay⟩
  · rw [← J.nt]
    cases hd : o.dst <;> simp [Act.put]
  · have : (a.put o.dst v).defers = a.defers := by cases hd : o.dst <;> simp [Act.put]
    rw [this]; exact J.df.carry hC
  · intro j oj d hj hDj hd p hp
    by_cases e : j = i
    · subst e
      rw [hi] at hj; cases hj
      rw [hput d hd]
      exact hv d p hd hp
    · have hDj' : D j := ((hD j).1 hDj).resolve_right e
      rw [hoth d fun h => e (R.reg.uniq j i oj o d hj hi hd h)]
      exact (J.new j oj d hj hDj' hd p hp).carry hC
  · intro t ht
    have hne : o.dst ≠ some t := ht i o hi ((hD i).2 (.inr rfl))
    rw [hoth t hne]
    obtain ⟨h1, h2⟩ := J.old t fun j oj hj hDj => ht j oj hj ((hD j).2 (.inl hDj))
    exact ⟨fun p hp => (h1 p hp).carry hC, h2⟩

/-- what an operation looks at stands for what the listed run had there -/
theorem DInv.looks {c0 : Cx} {w0 : World} {D : Nat → Prop} {k : Nat} {c : Cx} {a : Act} (J : DInv c0 w0 ops s mA st prs D k c a w) (R : DRun E call ops s s1 mA st prs tr) {i : Nat} {o : Oper} (hi : ops[i]? = some o) (hDi : ¬ D i)
    (hbef : ∀ j, Bef (befs [] ops.toList) j i → D j) (hcl : ∀ j, D j → ∀ j', Bef (befs [] ops.toList) j' j → D j') {t : Nat}
    (ht : .tmp t ∈ o.op.operands ∨ ∃ j k oj, o.guard = some (j, k) ∧ ops[j]? = some oj ∧ oj.dst = some t) :
    (∀ p, (st i).tm.get t = some p → Rep c (st k).me w p (a.tmps.getD t undef)) ∧ ((st i).tm.get t = none → a.tmps.getD t undef = undef) := by
  have hsz : i < ops.size := (Array.getElem?_eq_some_iff.1 hi).1
  have h0 : (st 0).tm.get t = s.tm.get t := by rw [R.h0]
  by_cases hw : ∃ (j : Nat) (o' : Oper), ops[j]? = some o' ∧ o'.dst = some t
  · obtain ⟨j, o', hj, hd⟩ := hw
    have hjs : j < ops.size := (Array.getElem?_eq_some_iff.1 hj).1
    have only : ∀ j' oj, ops[j']? = some oj → oj.dst = some t → j' = j := fun j' oj h1 h2 => R.reg.uniq j' j oj o' t h1 hj h2 hd
    rcases Nat.lt_or_ge j i with hlt | hge
    · -- written ahead
      have hDj : D j := by
        rcases R.reg.look i o t hi ht j o' hj hd with h | ⟨h, _⟩ | ⟨_, h⟩
        · omega
        · omega
        · exact hbef j h
      have e : (st i).tm.get t = (st (j + 1)).tm.get t := by
        have := R.tm_same (t := t) (i := j + 1) (n := i - (j + 1)) (by omega) fun j' oj h1 h2 h3 h4 => by
          have := only j' oj h3 h4; omega
        rwa [show j + 1 + (i - (j + 1)) = i by omega] at this
      rw [e]
      obtain ⟨q, hq⟩ := R.put_at hj hd
      exact ⟨fun p hp => J.new j o' t hj hDj hd p hp, fun hp => by rw [hq] at hp; cases hp⟩
    · have e : (st i).tm.get t = s.tm.get t := by
        have := R.tm_same (t := t) (i := 0) (n := i) (by omega) fun j' oj h1 h2 h3 h4 => by
          have := only j' oj h3 h4; omega
        rw [Nat.zero_add] at this
        exact this.trans h0
      rw [e]
      refine J.old t fun j' oj h1 h2 h3 => ?_
      have := only j' oj h1 h3
      subst this
      rcases R.reg.look i o t hi ht j' oj h1 h3 with h | ⟨_, h⟩ | ⟨h, _⟩
      · exact hDi (h ▸ h2)
      · exact hDi (hcl j' h2 i h)
      · omega
  · have hno : ∀ (j' : Nat) (oj : Oper), ops[j']? = some oj → oj.dst ≠ some t := fun j' oj h1 h2 => hw ⟨j', oj, h1, h2⟩
    have e : (st i).tm.get t = s.tm.get t := by
      have := R.tm_same (t := t) (i := 0) (n := i) (by omega) fun j' oj _ _ h3 => hno j' oj h3
      rw [Nat.zero_add] at this
      exact this.trans h0
    rw [e]
    exact J.old t fun j' oj h1 _ => hno j' oj h1

theorem DRun.tri_ord (R : DRun E call ops s s1 mA st prs tr) {i j : Nat} {m m' : PM} {oj : Oper} (hi : Tri.wr i m m' ∈ tr) (hj : ops[j]? = some oj) (hw : Wr st j) : i = j ∨ (i < j ∧ Bef (befs [] ops.toList) i j) ∨ (j < i ∧ Bef (befs [] ops.toList) j i) := by
  rcases Nat.lt_trichotomy i j with h | h | h
  · refine .inr (.inl ⟨h, ?_⟩)
    rcases R.pair _ hi _ (R.wr_tr hj hw) (fun e => by cases e; omega) with h' | h'
    · exact (ordered_lt h).1 h'
    · exact (ordered_lt h).2 h'
  · exact .inl h
  · refine .inr (.inr ⟨h, ?_⟩)
    rcases R.pair _ hi _ (R.wr_tr hj hw) (fun e => by cases e; omega) with h' | h'
    · exact (ordered_lt h).2 h'
    · exact (ordered_lt h).1 h'
theorem or_t {a b : Bool} (h : (a || b) = true) : a = true ∨ b = true := by cases a <;> simp_all
theorem DRun.rd_ord (R : DRun E call ops s s1 mA st prs tr) {i j k : Nat} {p : PV} {oj : Oper} (hi : Tri.rd i p k ∈ tr) (hj : ops[j]? = some oj) (hw : Wr st j) (hne : i ≠ j) :
    sameRead (st j).me (st (j + 1)).me p k = true ∨ (i < j ∧ Bef (befs [] ops.toList) i j) ∨ (j < i ∧ Bef (befs [] ops.toList) j i) := by
  have : sameRead (st j).me (st (j + 1)).me p k = true ∨ ordered (befs [] ops.toList) i j = true := by
    rcases R.pair _ hi _ (R.wr_tr hj hw) (fun e => by cases e) with h' | h'
    · exact (or_t h').symm
    · exact (or_t h').symm
  rcases this with h | h'
  · exact .inl h
  · rcases Nat.lt_trichotomy i j with h | h | h
    · exact .inr (.inl ⟨h, (ordered_lt h).1 h'⟩)
    · exact absurd h hne
    · exact .inr (.inr ⟨h, (ordered_lt h).2 h'⟩)

theorem DInv.go {c0 : Cx} {w0 : World} {D : Nat → Prop} {k : Nat} {c : Cx} {a : Act} (hE : ∀ t i, E.ty t = some i → TyOk P t i) (hcall : CallOk P K₀ call) (hpure : PureOk E call) (hk₀ : K₀ c0.ρ) (hM0 : MemRel c0 s.me w0) (J : DInv c0 w0 ops s mA st prs D k c a w) (R : DRun E call ops s s1 mA st prs tr) {i : Nat} {o : Oper} (hi : ops[i]? = some o) (hDi : ¬ D i)
    (hbef : ∀ j, Bef (befs [] ops.toList) j i → D j) (hcl : ∀ j, D j → ∀ j', Bef (befs [] ops.toList) j' j → D j') {K : Act → World → Prop} {Q : Exit → Act → World → Prop}
    (hK : ∀ a' w', (∃ k' c', DInv c0 w0 ops s mA st prs (fun j => D j ∨ j = i) k' c' a' w') → K a' w') : wpOp P ops Q i K a w := by
  have hlk := fun {t : Nat} ht => J.looks R hi hDi hbef hcl (t := t) ht
  have hgd : ∀ b, guardOk (st i).tm ops.toList o.guard = some b → Region.wanted o (yielded ops a.tmps) = b := fun b h =>
    guard_at (fun j kk oj d hg hj hd => (hlk (.inr ⟨j, kk, oj, hg, hj, hd⟩)).1) h
  have hr : ∀ x ∈ o.op.operands, ∀ p, evo (st i).tm x = some p → Rep c (st k).me w p (a.eval x) := fun x hx p hp => evo_at (fun t e => by
    subst e
    exact hlk (.inl hx)) hp
  have hsz : i < ops.size := (Array.getElem?_eq_some_iff.1 hi).1
  unfold wpOp
  rw [hi]
  simp only
  obtain ⟨pr, hpr0, hs⟩ := R.step i o hi
  -- no block of its own
  have fin : (∀ b, prs[i]? ≠ some (some (PV.ptr b 0 0))) → ∀ (k' : Nat) (c' : Cx) (v : Value) (w' : World), k' ≤ ops.size → (∀ j, j < ops.size → Wr st j → ((D j ∨ j = i) ↔ j < k')) →
      Ext c (st k).me w c' (st k').me w' → MemRel c' (st k').me w' → (∀ d p, o.dst = some d → (st (i + 1)).tm.get d = some p → Rep c' (st k').me w' p v) → K (a.put o.dst v) w' := by
    intro hno k' c' v w' hle hwr e1 e2 e3
    refine hK _ _ ⟨k', c', J.put R hi (fun j => Iff.rfl) (e1.carry J.mem) (J.ext.trans hM0 e1) e2 hle hwr ?_ e3⟩
    intro j b hj
    obtain ⟨l1, l2, l3⟩ := J.lay j b hj
    have hji : j ≠ i := fun e => hno b (e ▸ hj)
    refine ⟨Nat.lt_of_lt_of_le l1 e1.next, ⟨fun h => ?_, fun h => ?_⟩, fun h => ?_⟩
    · rcases e1.L2 b h with h | h
      · exact .inl (l2.1 h)
      · omega
    · exact e1.L1 b (l2.2 (h.resolve_right hji))
    · have hD : ¬ D j := fun h' => h (.inl h')
      rw [e1.unl b (fun h' => hD (l2.1 h')) l1]
      exact l3 hD
  have same : ∀ {j : Nat}, ¬ Wr st i → j < ops.size → Wr st j → ((D j ∨ j = i) ↔ j < k) := fun {j} hn hj hw => by
    rw [← J.wr j hj hw]
    exact ⟨fun h => h.resolve_right fun e => hn (e ▸ hw), .inl⟩
  cases hs with
  | skip hg hp =>
    rw [if_neg (by rw [hgd _ hg]; decide)]
    obtain ⟨p1, p2, p3, p4, p5⟩ := put_facts hp
    refine fin ?_ k c _ w J.le (fun j hj hw => same (fun h => h p1) hj hw) .refl J.mem ?_
    · intro b hb
      obtain ⟨t, _, kd, sz, z, _, _, _, _, _, o', q1, q2, q3⟩ := R.pre.at' i _ hb
      rw [Array.getElem?_toList, hi] at q1
      cases q1
      rw [q3] at hg
      cases hg
    · intro d p hd hp'
      rw [(p4 d hd).1] at hp'
      cases hp'
      exact undef_rep
  | alloc p hg hpr hp =>
    rw [if_pos (hgd _ hg)]
    obtain ⟨p1, p2, p3, p4, p5⟩ := put_facts hp
    subst hpr
    obtain ⟨t, b, kd, sz, z, rfl, q2, q3, q4, q5, o', q6, q7, q8⟩ := R.pre.at' i _ hpr0
    rw [Array.getElem?_toList, hi] at q6
    cases q6
    obtain ⟨l1, l2, l3⟩ := J.lay i b hpr0
    have hbL : ¬ c.L b := fun h => hDi (l2.1 h)
    have hget : (st k).me.get b = some (.cells z 0 false t) := by rw [l3 hDi]; exact q5
    obtain ⟨zv, info, hinf, hz, hzr, hz1, hz2⟩ := zeroOk_run (c := c) (m := (st k).me) (w := w) (hE _ _ q4).zero rfl
    have hex : (execOp a.eval o).run P w = .ok (.value (.pointer (some ⟨w.heap.size, 0, none⟩))) (w.alloc (.cells zv.cells t)) := by
      obtain ⟨dst, op, type, pos, after, guard⟩ := o
      simp only at q7
      subst q7
      simp [execOp, Instr.alloc, hz, newVar, newRow]
    obtain ⟨x1, x2, x3⟩ := ext_lay (o := .cells zv.cells t) (w' := w.alloc (.cells zv.cells t)) hM0 J.ext J.mem q2 hbL hget rfl ⟨rfl, rfl, rfl⟩ fun hC =>
      ⟨zv.cells, (0, 0), zv.cells.toList, by rw [move_β]; show (w.heap.push (.cells zv.cells t))[w.heap.size]? = _; simp, hzr.carry hC, by intro i v; simp, fun _ => rfl, fun h => by cases h⟩
    refine .inl ?_
    unfold Oper.wp
    rw [hex, Oper.upon_value]
    refine hK _ _ ⟨k, _, J.put R hi (fun j => Iff.rfl) x3 x1 x2 J.le (fun j hj hw => same (fun h => h p1) hj hw) ?_ ?_⟩
    · intro j b' hj
      obtain ⟨m1, m2, m3⟩ := J.lay j b' hj
      refine ⟨m1, ⟨fun h => ?_, fun h => ?_⟩, fun h => m3 fun h' => h (.inl h')⟩
      · rcases h with h | rfl
        · exact .inl (m2.1 h)
        · exact .inr (R.pre.apart _ _ _ hj hpr0)
      · rcases h with h | rfl
        · exact .inl (m2.2 h)
        · rw [hpr0] at hj
          cases hj
          exact .inr rfl
    · intro d p hd hp'
      rw [(p4 d hd).1] at hp'
      cases hp'
      exact .ptr b 0 0 _ _ (.inr rfl) hget (Nat.le_refl _) fun _ => by rw [move_β]
  | oper t v m hg hpr hd hp ht =>
    rw [if_pos (hgd _ hg)]
    obtain ⟨p1, p2, p3, p4, p5⟩ := put_facts hp
    subst hpr
    have hno : ∀ b, prs[i]? ≠ some (some (PV.ptr b 0 0)) := fun b h => by rw [hpr0] at h; cases h
    have hval : ∀ (c' : Cx) (m2 : PM) (u : Value) (w' : World), Rep c' m2 w' v u → ∀ d p, o.dst = some d → (st (i + 1)).tm.get d = some p → Rep c' m2 w' p u := fun c' m2 u w' hu d p hd' hp' => by
      rw [(p4 d hd').1] at hp'
      cases hp'
      exact hu
    -- a writing operation runs in the memory that it was listed in
    have wmem : Tri.wr i (st i).me m ∈ tr → (st i).me = (st k).me ∧ ∃ k', k' ≤ ops.size ∧ (st k').me = m ∧ ∀ j, j < ops.size → Wr st j → ((D j ∨ j = i) ↔ j < k') := by
      intro hw
      have ord := fun {j : Nat} (hj : j < ops.size) (hwj : Wr st j) => R.tri_ord hw (Array.getElem?_eq_getElem hj) hwj
      have heq : (st i).me = (st k).me := by
        rcases Nat.le_total k i with hle | hle
        · have := R.me_same (i := k) (n := i - k) (by omega) fun j h1 h2 hwj => by
            rcases ord (by omega) hwj with h | ⟨h, _⟩ | ⟨_, h⟩
            · omega
            · omega
            · have := (J.wr j (by omega) hwj).1 (hbef j h); omega
          rwa [show k + (i - k) = i by omega] at this
        · have hk := J.le
          have := R.me_same (i := i) (n := k - i) (by omega) fun j h1 h2 hwj => by
            have hDj := (J.wr j (by omega) hwj).2 (by omega)
            rcases ord (by omega) hwj with h | ⟨_, h⟩ | ⟨h, _⟩
            · exact hDi (h ▸ hDj)
            · exact hDi (hcl j hDj i h)
            · omega
          rw [show i + (k - i) = k by omega] at this
          exact this.symm
      refine ⟨heq, ?_⟩
      by_cases hwi : Wr st i
      · refine ⟨i + 1, hsz, p1, fun j hj hwj => ⟨fun h => ?_, fun h => ?_⟩⟩
        · rcases h with h | rfl
          · rcases ord hj hwj with h' | ⟨_, h'⟩ | ⟨h', _⟩
            · omega
            · exact absurd (hcl j h i h') hDi
            · omega
          · omega
        · rcases ord hj hwj with h' | ⟨h', _⟩ | ⟨_, h'⟩
          · exact .inr h'.symm
          · omega
          · exact .inl (hbef j h')
      · refine ⟨k, J.le, ?_, fun j hj hwj => same hwi hj hwj⟩
        rw [← heq, ← p1]
        exact (DRun.wr_or.resolve_left hwi).symm
    have hρ : ∀ (k : IntKind) (n : Int), evo (st i).tm (.const (.int k n)) = some (.int k n) := fun _ _ => rfl
    refine .inl ?_
    rcases drOper_cases hd with ⟨f, l, m2, h1, h2, h3, h4⟩ | ⟨f, l, h1, h2, h3⟩ | ⟨ty, x, kk, q, h1, h2, h3, h4, h5⟩ | ⟨h1, h2⟩ | ⟨h1, h2⟩
    · have hq := hpure f l h2 _ _ _ h3 (st k).me
      exact call_at hcall (by rw [J.ext.rho]; exact hk₀) J.mem hr h1 hq fun c' u w' e1 e2 e3 => fin hno k c' u w' J.le (fun j hj hw => same (fun h => h (p1.trans h4)) hj hw) e1 e2 (hval _ _ _ _ e3)
    · obtain ⟨heq, k', g1, g2, g3⟩ := wmem (ht _ h3)
      rw [heq] at h2
      subst g2
      exact call_at hcall (by rw [J.ext.rho]; exact hk₀) J.mem hr h1 h2 fun c' u w' e1 e2 e3 => fin hno k' c' u w' g1 g3 e1 e2 (hval _ _ _ _ e3)
    · have hrd := ht _ h4
      obtain ⟨m1, m2⟩ := mLoad_mem h5
      have heq : ldCells (st k).me (some q) kk.sz = ldCells (st i).me (some q) kk.sz := by
        rcases Nat.le_total k i with hle | hle
        · have := R.rd_same (p := q) (k := kk.sz) (i := k) (n := i - k) (by omega) fun j g1 g2 hwj => by
            rcases R.rd_ord hrd (Array.getElem?_eq_getElem (show j < ops.size by omega)) hwj (by omega) with h | ⟨h, _⟩ | ⟨_, h⟩
            · exact h
            · omega
            · have := (J.wr j (by omega) hwj).1 (hbef j h); omega
          rw [show k + (i - k) = i by omega] at this
          exact this.symm
        · have hk := J.le
          have := R.rd_same (p := q) (k := kk.sz) (i := i) (n := k - i) (by omega) fun j g1 g2 hwj => by
            have hDj := (J.wr j (by omega) hwj).2 (by omega)
            have hne : i ≠ j := fun e => hDi (e ▸ hDj)
            rcases R.rd_ord hrd (Array.getElem?_eq_getElem (show j < ops.size by omega)) hwj hne with h | ⟨_, h⟩ | ⟨h, _⟩
            · exact h
            · exact absurd (hcl j hDj i h) hDi
            · omega
          rwa [show i + (k - i) = k by omega] at this
      have hq : evOp E (evo (st i).tm) (st k).me o.op = some (v, (st k).me) := by
        rw [h1]
        show mLoad (E.ty ty) (st k).me (evo (st i).tm x) = _
        rw [h2, h3]
        exact m2 _ heq
      exact op_at hE J.mem hρ hr hq fun c' u w' e1 e2 e3 => fin hno k c' u w' J.le (fun j hj hw => same (fun h => h (p1.trans m1)) hj hw) e1 e2 (hval _ _ _ _ e3)
    · obtain ⟨heq, k', g1, g2, g3⟩ := wmem (ht _ h1)
      rw [heq] at h2
      subst g2
      exact op_at hE J.mem hρ hr h2 fun c' u w' e1 e2 e3 => fin hno k' c' u w' g1 g3 e1 e2 (hval _ _ _ _ e3)
    · exact op_at hE J.mem hρ hr (h2 (st k).me) fun c' u w' e1 e2 e3 => fin hno k c' u w' J.le (fun j hj hw => same (fun h => h (p1.trans h1)) hj hw) e1 e2 (hval _ _ _ _ e3)

theorem DInv.done {c0 : Cx} {w0 : World} {D : Nat → Prop} {k : Nat} {c : Cx} {a : Act} (J : DInv c0 w0 ops s mA st prs D k c a w) (R : DRun E call ops s s1 mA st prs tr) (hD : ∀ j, j < ops.size → D j) : Ext c0 s.me w0 c s1.me w ∧ SRel c s1 a w := by
  have hk := J.le
  have heq : s1.me = (st k).me := by
    have := R.me_same (i := k) (n := ops.size - k) (by omega) fun j h1 h2 hw => by
      have := (J.wr j (by omega) hw).1 (hD j (by omega)); omega
    rw [show k + (ops.size - k) = ops.size by omega, R.hn] at this
    exact this
  have hX := J.ext
  have hM := J.mem
  have hdf := J.df
  rw [← heq] at hX hM hdf
  obtain ⟨n1, n2⟩ := R.nt (Nat.le_refl _)
  rw [R.hn] at n1 n2
  have tmp : ∀ t, (∀ p, s1.tm.get t = some p → Rep c s1.me w p (a.tmps.getD t undef)) ∧ (s1.tm.get t = none → a.tmps.getD t undef = undef) := by
    intro t
    rw [heq, ← R.hn]
    by_cases hw : ∃ (j : Nat) (o' : Oper), ops[j]? = some o' ∧ o'.dst = some t
    · obtain ⟨j, o', hj, hd⟩ := hw
      have hjs : j < ops.size := (Array.getElem?_eq_some_iff.1 hj).1
      have e : (st ops.size).tm.get t = (st (j + 1)).tm.get t := by
        have := R.tm_same (t := t) (i := j + 1) (n := ops.size - (j + 1)) (by omega) fun j' oj h1 h2 h3 h4 => by
          have := R.reg.uniq j' j oj o' t h3 hj h4 hd; omega
        rwa [show j + 1 + (ops.size - (j + 1)) = ops.size by omega] at this
      rw [e]
      obtain ⟨q, hq⟩ := R.put_at hj hd
      exact ⟨fun p hp => J.new j o' t hj (hD j hjs) hd p hp, fun hp => by rw [hq] at hp; cases hp⟩
    · have hno : ∀ (j' : Nat) (oj : Oper), ops[j']? = some oj → oj.dst ≠ some t := fun j' oj h1 h2 => hw ⟨j', oj, h1, h2⟩
      have e : (st ops.size).tm.get t = s.tm.get t := by
        have := R.tm_same (t := t) (i := 0) (n := ops.size) (by omega) fun j' oj _ _ h3 => hno j' oj h3
        rw [Nat.zero_add] at this
        rw [this, R.h0]
      rw [e]
      exact J.old t fun j' oj h1 _ => hno j' oj h1
  exact ⟨hX, hM, fun t => (tmp t).1, fun t => (tmp t).2, J.nt.trans n1.symm, by rw [n2]; exact hdf⟩
end

def Dn (listed : Array Bool) (j : Nat) : Prop := listed.getD j false = true
theorem any_go {ops : Array Oper} {s s1 : St} {mA : PM} {st : Nat → St} {prs : List (Option PV)} {tr : List Tri} {c0 : Cx} {w0 : World} {Q : Exit → Act → World → Prop} (hE : ∀ t i, E.ty t = some i → TyOk P t i) (hcall : CallOk P K₀ call) (hpure : PureOk E call) (hk₀ : K₀ c0.ρ) (hM0 : MemRel c0 s.me w0) (R : DRun E call ops s s1 mA st prs tr)
    (hQ : ∀ c' a' w', Ext c0 s.me w0 c' s1.me w' → SRel c' s1 a' w' → Q .normal a' w') : ∀ (fuel : Nat) (listed : Array Bool) (a : Act) (w : World), listed.size = ops.size → listed.toList.count false = fuel →
    (∀ j, Dn listed j → ∀ j', Bef (befs [] ops.toList) j' j → Dn listed j') → (∃ k c, DInv c0 w0 ops s mA st prs (Dn listed) k c a w) → wpAny P .any ops Q fuel listed a w := by
  intro fuel
  have gt : ∀ {listed : Array Bool} {j : Nat}, listed.size = ops.size → j < ops.size → listed.getD j true = listed.getD j false := fun h1 h2 => by
    simp [Array.getD, h1, h2]
  induction fuel with
  | zero =>
    rintro listed a w hsz hf hcl ⟨k, c, J⟩
    have hall : ∀ j, j < ops.size → Dn listed j := fun j hj => by
      have h0 := List.count_eq_zero.1 hf
      unfold Dn
      rw [Array.getD_eq_getD_getElem?, Array.getElem?_eq_getElem (by omega)]
      simp only [Option.getD_some]
      cases hb : listed[j]'(by omega) with
      | true => rfl
      | false => exact absurd (hb ▸ by simp) h0
    obtain ⟨h1, h2⟩ := J.done R hall
    refine ⟨?_, hQ c a w h1 h2⟩
    cases hr : Region.ready .any ops listed with
    | nil => rfl
    | cons j r =>
      have hj : j ∈ Region.ready .any ops listed := by rw [hr]; simp
      obtain ⟨g1, o, g2, _⟩ := mem_ready.1 hj
      have hlt := (Array.getElem?_eq_some_iff.1 g2).1
      rw [gt hsz hlt] at g1
      have := hall j hlt
      unfold Dn at this
      rw [g1] at this; cases this
  | succ fuel ih =>
    rintro listed a w hsz hf hcl ⟨k, c, J⟩
    refine ⟨fun hr => ?_, fun i hi => ?_⟩
    · have hall : ∀ j, j < ops.size → Dn listed j := by
        intro j
        induction j using Nat.strongRecOn with
        | _ j ihj =>
          intro hj
          cases hb : listed.getD j false with
          | true => exact hb
          | false =>
            have : j ∈ Region.ready .any ops listed := mem_ready.2 ⟨by rw [gt hsz hj]; exact hb, _, Array.getElem?_eq_getElem hj, fun e he hbd => by
              have := R.reg.edge j _ (Array.getElem?_eq_getElem hj) e (by simpa using he) hbd
              exact ihj e.on this (by omega)⟩
            rw [hr] at this; cases this
      obtain ⟨h1, h2⟩ := J.done R hall
      exact hQ c a w h1 h2
    · obtain ⟨g1, o, g2, g3⟩ := mem_ready.1 hi
      have hlt := (Array.getElem?_eq_some_iff.1 g2).1
      rw [gt hsz hlt] at g1
      have hDi : ¬ Dn listed i := fun h => by unfold Dn at h; rw [g1] at h; cases h
      have hbef : ∀ j, Bef (befs [] ops.toList) j i → Dn listed j := fun j hj => by
        have := (befs_spec (os := ops.toList) (prev := [])).2 i o (by rw [Array.getElem?_toList]; exact g2) j (by simpa using hj)
        obtain ⟨e, e1, e2, _, e4⟩ := this
        have hde : Dn listed e.on := g3 e (by simpa using e1) e2
        rcases e4 with rfl | e4
        · exact hde
        · exact hcl e.on hde j e4
      refine J.go hE hcall hpure hk₀ hM0 R g2 hDi hbef hcl fun a' w' hJ => ih _ a' w' (by simpa using hsz) ?_ ?_ ?_
      · have hl : i < listed.toList.length := by simp [hsz, hlt]
        have hli : listed.toList[i] = false := by
          have : listed[i]'(by omega) = false := by
            rw [Array.getD_eq_getD_getElem?, Array.getElem?_eq_getElem (by omega)] at g1
            exact g1
          simpa using this
        rw [Array.toList_setIfInBounds, List.count_set hl, hli, hf]
        simp
      · have hD' : ∀ j, Dn (listed.setIfInBounds i true) j ↔ Dn listed j ∨ j = i := fun j => by
          unfold Dn
          simp only [Array.getD_eq_getD_getElem?, Array.getElem?_setIfInBounds]
          by_cases e : i = j
          · subst e; simp [hsz, hlt]
          · have e' : ¬ j = i := fun h => e h.symm
            simp [e, e']
        intro j hj j' hb
        rw [hD'] at hj ⊢
        rcases hj with hj | rfl
        · exact .inl (hcl j hj j' hb)
        · exact .inl (hbef j' hb)
      · have hD' : (fun j => Dn listed j ∨ j = i) = Dn (listed.setIfInBounds i true) := by
          funext j
          refine propext ?_
          unfold Dn
          simp only [Array.getD_eq_getD_getElem?, Array.getElem?_setIfInBounds]
          by_cases e : i = j
          · subst e; simp [hsz, hlt]
          · have e' : ¬ j = i := fun h => e h.symm
            simp [e, e']
        rw [hD'] at hJ
        exact hJ

theorem draw_ok (hmix : P.follows .mixedOrders = true) (hE : ∀ t i, E.ty t = some i → TyOk P t i) (hcall : CallOk P K₀ call) (hpure : PureOk E call) : DrawOk P K₀ E call := by
  intro id ops s s1 c a w Q hreg hk hS h hQ
  obtain ⟨mA, st, prs, tr, R⟩ := evDraw_run hreg h
  refine wp_region_any hmix ?_
  obtain ⟨e1, m1⟩ := ext_pre hS.mem R.pre.old (R.pre.fresh hS.mem.fresh) R.pre.next
  obtain ⟨e2, m2⟩ := m1.heap (w' := { w with drawn := w.drawn + 1 }) rfl ⟨rfl, rfl, rfl⟩
  have hX := e1.trans hS.mem e2
  have hC := hX.carry hS.mem
  have h0 : (st 0).me = mA := by rw [R.h0]
  have nd : ∀ j, ¬ Dn (Array.replicate ops.size false) j := fun j h => by
    unfold Dn at h
    rw [Array.getD_eq_getD_getElem?, Array.getElem?_replicate] at h
    split at h <;> cases h
  refine any_go hE hcall hpure hk hS.mem R hQ ops.size _ a _ (by simp) (by simp) (fun j hj => absurd hj (nd j)) ⟨0, c, ?_⟩
  refine ⟨Nat.zero_le _, fun j _ _ => ⟨fun h => absurd h (nd j), fun h => by omega⟩, by rw [h0]; exact m2, by rw [h0]; exact hX, hS.nt, by rw [h0]; exact hS.df.carry hC, fun j o d _ hj => absurd hj (nd j), ?_, ?_⟩
  · intro t _
    rw [h0]
    exact ⟨fun p hp => (hS.tm t p hp).carry hC, hS.tn t⟩
  · intro j b hj
    obtain ⟨t, b', kd, sz, z, e, q2, q3, _⟩ := R.pre.at' j _ hj
    cases e
    rw [h0]
    refine ⟨q3, ⟨fun h => ?_, fun h => absurd h (nd j)⟩, fun _ => rfl⟩
    have := L_lt hS.mem h; omega
end
end

/-- the interpreter's word holds -/
theorem evCall_ok {P : Program} {E : Env} {K₀ : (Nat → List Int → PV) → Prop} (hok : EnvOk P K₀ E) (N n : Nat) : CallOk P K₀ (evCall E N n) :=
  evCall_sound hok (fun _ h1 h2 => draw_ok hok.mixed hok.ty h1 h2) N n
end Go.Ab
