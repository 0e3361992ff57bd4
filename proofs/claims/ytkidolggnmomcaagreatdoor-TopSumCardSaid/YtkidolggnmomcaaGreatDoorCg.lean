/- Contracts for the statement, and its run ahead of the loop. -/
import Derived.Test.YtkidolggnmomcaaGreatDoorCf
import Derived.Test.YtkidolggnmomcaaGreatDoorBe
import Derived.Test.YtkidolggnmomcaaGreatDoorK1
import Derived.Test.YtkidolggnmomcaaGreatDoorAe
set_option linter.unusedVariables false
set_option linter.unusedSimpArgs false
/- The interpreter for the statement's own function: contracts for all that it calls. -/
open Go Go.Ab
namespace Go.Ab.T
set_option maxRecDepth 10000
set_option linter.unusedSimpArgs false

theorem Ev.det {E : Env} {f : Nat} {l : List PV} {m m1 m2 : PM} {q r : PV} (h : Ev E f l m q m1) (h' : Ev E f l m r m2) : q = r ∧ m1 = m2 := by
  obtain ⟨k, h⟩ := h
  obtain ⟨k', h'⟩ := h'
  have a := h (max k k') (max k k') (Nat.le_max_left _ _) (Nat.le_max_left _ _)
  have b := h' (max k k') (max k k') (Nat.le_max_right _ _) (Nat.le_max_right _ _)
  rw [a] at b
  cases b
  exact ⟨rfl, rfl⟩
open Classical in
/-- whatever was shown of a call that changes no memory -/
noncomputable def evG (f : Nat) (l : List PV) : Option PV := if h : ∃ q, ∀ m, Ev E f l m q m then some h.choose else none
theorem evG_eq {f : Nat} {l : List PV} {q : PV} (h : ∀ m, Ev E f l m q m) : evG f l = some q := by
  have hx : ∃ q, ∀ m, Ev E f l m q m := ⟨q, h⟩
  unfold evG
  rw [dif_pos hx]
  exact congrArg some (Ev.det (hx.choose_spec .empty) (h .empty)).1
theorem con_evG (f : Nat) {K : (Nat → List Int → PV) → Prop} : ConOk P K f (evG f) := by
  intro l r _ hg c m w vs _ hM hr
  unfold evG at hg
  split at hg
  · rename_i hx
    cases hg
    obtain ⟨k, h⟩ := hx.choose_spec m
    exact evCall_ok okE k k _ _ _ _ _ (h k k (Nat.le_refl _) (Nat.le_refl _)) c w vs trivial hM hr
  · cases hg
open Classical in
/-- an edit, handed an engine and a number -/
structure DoD where
  t : Nat
  k : Nat
  y : Nat → Rat
  v : Rat
  s : Bool
  pa : PV
  pb : PV
  fil : Nat → Bool
  len : Nat
  b : Nat
  g : Nat
structure DoD.Ok (x : DoD) (n : Nat) (l : List PV) (m : PM) : Prop where
  e : EditOk n x.t x.k x.y x.v x.s x.pa x.pb x.len
  l : l = [.ptr x.b x.g 0, opL x.k x.s x.pa x.pb]
  b : m.get x.b = some (.cells (engL n x.t x.y x.fil x.len) x.g false 76)
/-- the engine behind it -/
noncomputable def DoD.out (x : DoD) (n : Nat) : List PV := engL n (toldBy x.t x.k) (upd x.y x.k x.v) (fun i => if i = x.k then true else x.fil i) (x.len + 1)
open Classical in
noncomputable def gDo (n : Nat) (l : List PV) (m : PM) : Option (PV × PM) := if h : ∃ x : DoD, x.Ok n l m then some (ansOk, m.upd h.choose.b (.cells (h.choose.out n) h.choose.g false 76)) else none
structure DocD where
  t : Nat
  y : Nat → Rat
  fil : Nat → Bool
  len : Nat
  b : Nat
  g : Nat
structure DocD.Ok (x : DocD) (n : Nat) (l : List PV) (m : PM) : Prop where
  n1 : 2 ≤ n
  n2 : n ≤ 8
  t : x.t < 2
  y : ∀ i, i < n → Bd 2 (x.y i)
  len : x.len ≤ 12
  l : l = [.ptr x.b x.g 0]
  b : m.get x.b = some (.cells (engL n x.t x.y x.fil x.len) x.g false 76)
open Classical in
noncomputable def gDoc (n : Nat) (l : List PV) (m : PM) : Option (PV × PM) := if h : ∃ x : DocD, x.Ok n l m then some (.agg (docL n h.choose.t h.choose.y h.choose.fil), m.upd h.choose.b (.cells (engL n h.choose.t h.choose.y h.choose.fil h.choose.len) h.choose.g false 76)) else none
noncomputable def topX (f : Nat) : Option (List PV → Option PV) := bif Nat.beq f 7 then some (memo [] (.bool true)) else bif Nat.beq f 4 then some (evG 4) else bif Nat.beq f 6 then some (evG 6) else bif Nat.beq f 10 then some (evG 10) else bif Nat.beq f 11 then some (evG 11) else none
noncomputable def topM (n f : Nat) : Option (List PV → PM → Option (PV × PM)) := bif Nat.beq f 8 then some (gDo n) else bif Nat.beq f 9 then some (gDoc n) else none
/-- the interpreter for the statement's own function, at n fields -/
noncomputable def EL (n : Nat) : Env := { withExt E1 topX with same := fun f => Nat.beq f 266 || (Nat.beq f 8 || Nat.beq f 9), extM := topM n }
theorem okTop : EnvOk P K1 (withExt E1 topX) := by
  refine withExt_ok okE1 fun f g hg => ?_
  unfold topX at hg
  have step : ∀ {k : Nat} {a : List PV → Option PV} {b : Option (List PV → Option PV)}, (bif Nat.beq f k then some a else b) = some g → ConOk P K1 k a → (b = some g → ConOk P K1 f g) → ConOk P K1 f g := by
    intro k a b h1 h2 h3
    cases hb : Nat.beq f k with
    | true =>
      rw [hb] at h1
      cases h1
      cases beq_t hb
      exact h2
    | false =>
      rw [hb] at h1
      exact h3 h1
  refine step hg (memo_ok okE1 K1.pl known_run rfl rfl) fun h => step h (con_evG 4) fun h => step h (con_evG 6) fun h => step h (con_evG 10) fun h => step h (con_evG 11) fun h => ?_
  cases h
theorem okEL (n : Nat) : EnvOk P K1 (EL n) where
  ty := okTop.ty
  fn := okTop.fn
  reg := okTop.reg
  guard := okTop.guard
  ext := okTop.ext
  mixed := okTop.mixed
  extM := fun f g hg l m r m' hr c w vs hK hM hvs => by
    have hg' : topM n f = some g := hg
    unfold topM at hg'
    cases h8 : Nat.beq f 8 with
    | true =>
      rw [h8] at hg'
      cases hg'
      cases beq_t h8
      unfold gDo at hr
      split at hr
      · rename_i hx
        have hs := hx.choose_spec
        generalize hx.choose = x at hr hs
        cases hr
        have hl := hs.l
        subst hl
        exact do_call hs.e hs.b hM hvs
      · cases hr
    | false =>
      rw [h8] at hg'
      obtain ⟨h9, h10⟩ := bif_some hg'
      cases h10
      cases beq_t h9
      unfold gDoc at hr
      split at hr
      · rename_i hx
        have hs := hx.choose_spec
        generalize hx.choose = x at hr hs
        cases hr
        have hl := hs.l
        subst hl
        exact doc_call hs.n1 hs.n2 hs.t hs.y hs.len hs.b hM hvs
      · cases hr
  same := fun f hs hx v w => by
    have hs' : (Nat.beq f 266 || (Nat.beq f 8 || Nat.beq f 9)) = true := hs
    have hx' : topM n f = none := hx
    unfold topM at hx'
    cases h1 : Nat.beq f 266 with
    | true => cases beq_t h1; exact same_ok v w
    | false =>
      rw [h1] at hs'
      cases h8 : Nat.beq f 8 with
      | true => rw [h8] at hx'; cases hx'
      | false =>
        rw [h8] at hs' hx'
        have h9 : Nat.beq f 9 = true := hs'
        rw [h9] at hx'; cases hx'

/-! ### calls in it -/
section
variable {n : Nat}
theorem Ev_ext {E : Env} {f : Nat} {g : List PV → Option PV} {l : List PV} {r : PV} (hg : E.ext f = some g) (hl : flat1s l = true) (hr : g l = some r) (m : PM) : Ev E f l m r m := by
  refine ⟨1, fun N n _ hn => ?_⟩
  obtain ⟨n', rfl⟩ : ∃ n', n = n' + 1 := ⟨n - 1, by omega⟩
  simp only [evCall, hg, hl, cond_true, hr]
theorem Ev_top {f : Nat} {l : List PV} {q : PV} (hg : (EL n).ext f = some (evG f)) (hl : flat1s l = true) (h : ∀ m, Ev E f l m q m) (m : PM) : Ev (EL n) f l m q m := Ev_ext hg hl (evG_eq h) m
theorem Ev_known (m : PM) : Ev (EL n) 7 [] m (.bool true) m := Ev_ext rfl rfl rfl m
theorem Ev_extM {E : Env} {f : Nat} {g : List PV → PM → Option (PV × PM)} {l : List PV} {m m' : PM} {r : PV} (he : E.ext f = none) (hs : E.same f = true) (hg : E.extM f = some g) (hi : E.iso f = false) (hr : g l m = some (r, m')) : Ev E f l m r m' := by
  refine ⟨1, fun N n _ hn => ?_⟩
  obtain ⟨n', rfl⟩ : ∃ n', n = n' + 1 := ⟨n - 1, by omega⟩
  simp only [evCall, he, hs, hg, hi, cond_true, cond_false, hr]
theorem Ev_do {m : PM} {x : DoD} {l : List PV} (h : x.Ok n l m) : ∃ z : DoD, z.Ok n l m ∧ Ev (EL n) 8 l m ansOk (m.upd z.b (.cells (z.out n) z.g false 76)) := by
  have hx : ∃ x : DoD, x.Ok n l m := ⟨x, h⟩
  refine ⟨hx.choose, hx.choose_spec, Ev_extM rfl rfl rfl rfl ?_⟩
  unfold gDo
  rw [dif_pos hx]
theorem Ev_doc {m : PM} {x : DocD} {l : List PV} (h : x.Ok n l m) : ∃ z : DocD, z.Ok n l m ∧ Ev (EL n) 9 l m (.agg (docL n z.t z.y z.fil)) (m.upd z.b (.cells (engL n z.t z.y z.fil z.len) z.g false 76)) := by
  have hx : ∃ x : DocD, x.Ok n l m := ⟨x, h⟩
  refine ⟨hx.choose, hx.choose_spec, Ev_extM rfl rfl rfl rfl ?_⟩
  unfold gDoc
  rw [dif_pos hx]
end
end Go.Ab.T
/- The statement's own function ahead of its loop: what is run. -/
open Go Go.Ab
namespace Go.Ab.T
set_option maxRecDepth 10000
def fstC : Code → Code
  | .seq a _ => a
  | c => c
def sndC : Code → Code
  | .seq _ b => b
  | c => c
noncomputable def body3 : Code := match Go.Proofs.Tryz.f3.body with
  | some c => c
  | none => .skip
def drop3 : Nat → Code → Code
  | 0, c => c
  | n + 1, c => drop3 n (sndC c)
/-- the pieces behind the first tests, ahead of the loop -/
noncomputable def midL : List Code := [fstC (drop3 2 body3), fstC (drop3 3 body3), fstC (drop3 4 body3), fstC (drop3 5 body3), fstC (drop3 6 body3), fstC (drop3 7 body3)]
noncomputable def restC : Code := drop3 8 body3
noncomputable def EP (n : Nat) : Env := withExt E1 (fun f => bif Nat.beq f 27 then some (memo [formR n] (okErr (.agg (doc0 n)))) else none)
def blkF (m : PM) (b k : Nat) : Option (PV × Nat × Bool × Nat) := match m.get b with
  | some (.cells cs g fr et) => match nthN cs k with
    | some p => some (p, g, fr, et)
    | none => none
  | _ => none
/-- what is looked at behind it -/
def factsOf (s : St) : Nat × List (Nat × List PV) × Nat × Option PV × Option PV × Option PV × Option PV × Option PV × Option (PV × Nat × Bool × Nat) × Option Blk × Option Blk :=
  (s.nt, s.df, s.me.next, s.tm.get 0, s.tm.get 1, s.tm.get 2, s.tm.get 7, s.tm.get 11, blkF s.me 0 3, s.me.get 2, s.me.get 6)
/-- the temporaries behind the first tests -/
def tm35 (n : Int) (e v p6 p18 p19 p20 p21 p22 p23 p24 p25 p26 p27 p28 p29 p30 p31 p32 p33 p34 p35 : PV) : Tr PV :=
  (((((((((((((((((((((Tr.leaf.set 0 (.int .i64 n)).set 1 e).set 2 v).set 6 p6).set 18 p18).set 19 p19).set 20 p20).set 21 p21).set 22 p22).set 23 p23).set 24 p24).set 25 p25).set 26 p26).set 27 p27).set 28 p28).set 29 p29).set 30 p30).set 31 p31).set 32 p32).set 33 p33).set 34 p34).set 35 p35
def preFacts (n : Nat) (e v : PV) : Nat × List (Nat × List PV) × Nat × Option PV × Option PV × Option PV × Option PV × Option PV × Option (PV × Nat × Bool × Nat) × Option Blk × Option Blk :=
  (175, [], 7, some (.int .i64 (Int.ofNat n)), some e, some v, some (.ptr 0 0 0), some (.ptr 6 0 0), some (.msl 2 (Nat.pred n) 0 n 4, 0, false, 33), some (.cells (fieldsR n) (Nat.pred n) true 42), some (.cells (engCs n (doc0 n) .nils) 0 false 76))
/-- the run ahead of the loop -/
def PreRun (n : Nat) : Prop := ∀ (e v p6 p18 p19 p20 p21 p22 p23 p24 p25 p26 p27 p28 p29 p30 p31 p32 p33 p34 p35 : PV),
  (runs (EP n) (evCall (EP n) 4000 400) 4000 midL ⟨tm35 (Int.ofNat n) e v p6 p18 p19 p20 p21 p22 p23 p24 p25 p26 p27 p28 p29 p30 p31 p32 p33 p34 p35, 175, .empty, []⟩).map factsOf = some (preFacts n e v)
theorem mid_reg : ∀ a ∈ midL, codeReg a = true := by
  have h : midL.all codeReg = true := by kernel_rfl
  exact List.all_eq_true.1 h
theorem rest_reg : codeReg restC = true := by kernel_rfl
end Go.Ab.T
