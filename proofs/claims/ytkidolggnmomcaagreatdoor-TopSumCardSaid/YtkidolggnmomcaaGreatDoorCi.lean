/- The function of the statement answers true; what is handed in is read. -/
import Derived.Test.YtkidolggnmomcaaGreatDoorLa
import Derived.Test.YtkidolggnmomcaaGreatDoorKp2
import Derived.Test.YtkidolggnmomcaaGreatDoorKp3
import Derived.Test.YtkidolggnmomcaaGreatDoorKp4
import Derived.Test.YtkidolggnmomcaaGreatDoorKp5
import Derived.Test.YtkidolggnmomcaaGreatDoorKp6
import Derived.Test.YtkidolggnmomcaaGreatDoorKp7
import Derived.Test.YtkidolggnmomcaaGreatDoorKp8
import Derived.ChangeSlices
import Derived.WideShapes
set_option linter.unusedVariables false
set_option linter.unusedSimpArgs false
/- The statement's own function answers true. -/
open Go Go.Ab
namespace Go.Ab.T
set_option maxRecDepth 10000
set_option linter.unusedSimpArgs false

theorem body_eq : body3 = .seq (fstC body3) (.seq (fstC (drop3 1 body3)) (seqs midL restC)) := by kernel_rfl
theorem reg0 : codeReg (fstC body3) = true := by kernel_rfl
theorem reg1 : codeReg (fstC (drop3 1 body3)) = true := by kernel_rfl
theorem pre_all : ∀ n : Nat, 2 ≤ n → n ≤ 8 → PreRun n := by
  intro n h1 h2
  have hn : n = 2 ∨ n = 3 ∨ n = 4 ∨ n = 5 ∨ n = 6 ∨ n = 7 ∨ n = 8 := by omega
  rcases hn with rfl | rfl | rfl | rfl | rfl | rfl | rfl
  · exact pre2
  · exact pre3
  · exact pre4
  · exact pre5
  · exact pre6
  · exact pre7
  · exact pre8
theorem okEP {n : Nat} (h1 : 2 ≤ n) (h2 : n ≤ 8) : EnvOk P K1 (EP n) := by
  have S := stiff_ok (k := 0) h1 h2 (show 0 < 2 by decide) (by omega)
  have o2 := okE2 (static_all n h1 h2) (sides_all n h1 h2) S.form S.sides S.con
  refine withExt_ok okE1 fun f g hg => ?_
  obtain ⟨h3, h4⟩ := bif_some hg
  cases h4
  cases beq_t h3
  exact memo_ok o2 K1.pl (new_all n h1 h2) S.form S.new
/-- names that nobody uses -/
def ρ0 : Nat → List Int → PV := rhoOf [] [] false .nils (.vsl [.int .u32 1] 1 none) (fun _ => false) 0
theorem K0 : KP ρ0 := rho_ok (fun x h => by cases h) (by
  have e := (canR_p ((0 : Int) : Rat)).c
  rw [← conR_eq rfl] at e
  exact e) (Nat.zero_le _)

section
variable {n : Int} {zs : List Int} {rs : List (Bool × PV × PV)} {pe pv : PV}
theorem top_mc (he : Ed zs pe) (hv : Va rs pv) (hr : ∀ x ∈ rs, RawOk x) : MC P ρ0 body3 ⟨bindArgs 0 [.int .i64 n, pe, pv] .leaf, 175, .empty, []⟩ fun x s => x = .ret ∧ s.df = [] ∧ s.tm.get 6 = some (.bool true) := by
  rw [body_eq]
  refine MC_seq ((MC_WC okE trivial reg0 top0).mono ?_)
  rintro x s ⟨rfl, rfl⟩
  show MC _ _ _ _ _
  refine MC_seq ((MC_WC okE trivial reg1 (top1 he hv)).mono ?_)
  rintro x s (⟨rfl, h⟩ | ⟨rfl, ⟨h1, h2, h3, h4⟩, p6, p18, p19, p20, p21, p22, p23, p24, p25, p26, p27, p28, p29, p30, p31, p32, p33, p34, p35, rfl⟩)
  · exact ⟨rfl, h⟩
  · obtain ⟨n', rfl⟩ : ∃ n' : Nat, n = (n' : Int) := ⟨n.toNat, by omega⟩
    have h1' : 2 ≤ n' := by omega
    have h2' : n' ≤ 8 := by omega
    obtain ⟨s1, hs1, hf⟩ := Option.map_eq_some_iff.1 (pre_all n' h1' h2' pe pv p6 p18 p19 p20 p21 p22 p23 p24 p25 p26 p27 p28 p29 p30 p31 p32 p33 p34 p35)
    show MC _ _ _ _ _
    refine MC_runs (okEP h1' h2') K0.k mid_reg hs1 ?_
    obtain ⟨tm, nt, me, df⟩ := s1
    simp only [factsOf, preFacts, Prod.mk.injEq] at hf
    obtain ⟨rfl, rfl, hn, t0, t1, t2, t7, t11, hb, hF, hE⟩ := hf
    have hb' : ∃ cs, me.get 0 = some (.cells cs 0 false 33) ∧ nthN cs 3 = some (.msl 2 (Nat.pred n') 0 n' 4) := by
      unfold blkF at hb
      split at hb
      · rename_i cs g fr et hg
        split at hb
        · rename_i p hp
          simp only [Option.some.injEq, Prod.mk.injEq] at hb
          obtain ⟨rfl, rfl, rfl, rfl⟩ := hb
          exact ⟨cs, hg, hp⟩
        · cases hb
      · cases hb
    exact MC_WC (okEL n') K0.k rest_reg (top_loop h1' h2' he hv h3 h4 hr t0 t1 t2 t7 t11 ⟨hb', hF, by rw [hE, eng0], by omega⟩)

theorem f3_at : P.funcs[3]? = some Go.Proofs.Tryz.f3 := (fn_ok 3 _ rfl).1
/-- whatever is handed in, the answer is true, and what was there stays as it was -/
theorem top_call (he : Ed zs pe) (hv : Va rs pv) (hr : ∀ x ∈ rs, RawOk x) {c : Cx} {w : World} {vs : List Value} (hρ : c.ρ = ρ0) (hM : MemRel c .empty w) (hvs : Reps c .empty w [.int .i64 n, pe, pv] vs) :
    Calls P 3 ⟨vs⟩ w fun e w' => e = .returned (.bool true) ∧ ∃ c' m', Ext c .empty w c' m' w' := by
  have hb : Go.Proofs.Tryz.f3.body = some body3 := rfl
  refine calls_of_wp_defers f3_at hb ?_
  have hlen := hvs.length
  have hl3 : vs.length = 3 := by rw [hlen]; rfl
  have hnt : Go.Proofs.Tryz.f3.ntmps = 175 := rfl
  have hS : SRel c ⟨bindArgs 0 [.int .i64 n, pe, pv] .leaf, 175, .empty, []⟩ { tmps := (⟨vs⟩ : Array Value) ++ Array.replicate (Go.Proofs.Tryz.f3.ntmps - (⟨vs⟩ : Array Value).size) undef, defers := [] } w := by
    refine ⟨hM, ?_, ?_, ?_, trivial⟩
    · intro t p hp
      rcases (bindArgs_get hvs t).1 p hp with ⟨_, e2, e3⟩ | ⟨e1, _⟩
      · have : ((⟨vs⟩ : Array Value) ++ Array.replicate (Go.Proofs.Tryz.f3.ntmps - (⟨vs⟩ : Array Value).size) undef).getD t undef = vs.getD (t - 0) undef := by
          rw [Array.getD_eq_getD_getElem?, Array.getElem?_append_left (by simp at e2 ⊢; omega)]
          simp
        rw [this]; exact e3
      · rw [Tr.get_leaf] at e1; cases e1
    · intro t hp
      obtain ⟨_, e2⟩ := (bindArgs_get (i := 0) (t := Tr.leaf) hvs t).2 hp
      rw [Array.getD_eq_getD_getElem?, Array.getElem?_append_right (by simp at e2 ⊢; omega)]
      simp only [Array.getElem?_replicate]
      split <;> rfl
    · simp [hnt, hl3]
  refine wp_mono ((top_mc he hv hr).wp c _ w hρ hS) ?_
  intro e a' w' hp
  cases e with
  | ret =>
    obtain ⟨c', s', hX, hS', _, hd, h6⟩ := hp
    have hdf := hS'.df
    rw [hd] at hdf
    have hres : resultsOf E s'.tm s'.me Go.Proofs.Tryz.f3.results.toList = some [.bool true] := by
      show resultsOf E s'.tm s'.me [.tmp 6] = _
      simp only [resultsOf, evo_t h6]
    obtain ⟨v, r1, r2⟩ := results_sound (P := P) okE.ty hS' hres
    cases hds : a'.defers with
    | nil =>
      show Leaves P Go.Proofs.Tryz.f3 a'.tmps _ a'.defers .returning w'
      rw [hds]
      refine ⟨v, r1, ?_, c', s'.me, hX⟩
      cases r2; rfl
    | cons d ds => rw [hds] at hdf; exact hdf.elim
  | normal => obtain ⟨c', s', hX, hS', h, _⟩ := hp; cases h
  | exit i => obtain ⟨c', s', hX, hS', h, _⟩ := hp; cases h
  | panic ch => exact hp.elim
  | goto l => exact hp.elim
  | outgrown => exact hp.elim
end
end Go.Ab.T
/- What is handed in, read: a number, a row of ints, a row of numbers. -/
open Go Go.Ab
namespace Go.Ab.T
set_option maxRecDepth 10000
set_option linter.unusedSimpArgs false

/-- nobody writes what was there -/
def cx0 (W : World) : Cx := ⟨ρ0, fun k e => (K1.pl _ K0.k k e).2.2, fun _ => 0, fun B => B < W.heap.size, fun _ => False⟩
theorem mem0 (W : World) : MemRel (cx0 W) .empty W := ⟨fun b _ => PM.get_empty b, fun b hb => hb.elim, fun b _ hb => hb.elim, fun b b' hb => hb.elim, fun B hB => hB, fun b hb => hb.elim⟩
theorem cell_lt {w : World} {a : Addr} {v : Value} (h : w.cell? a = some v) : a.block < w.heap.size ∧ a.spot = none := by
  unfold World.cell? at h
  split at h
  · rename_i c t f hc
    refine ⟨(Array.getElem?_eq_some_iff.1 hc).1, ?_⟩
    cases hs : a.spot with
    | none => rfl
    | some x => rw [hs] at h; simp at h
  · cases h
theorem add_at {B o i : Nat} : (⟨B, o, none⟩ : Addr).add i = ⟨B, o + i, none⟩ := by
  unfold Addr.add
  split
  · rename_i h; subst h; rfl
  · rfl
theorem reps_ints {c : Cx} {m : PM} {w : World} {k : IntKind} : ∀ (zs : List Int), Reps c m w (zs.map (PV.int k)) (zs.map (Value.int k))
  | [] => .nil
  | z :: zs => .cons _ _ _ _ (.int k z) (reps_ints zs)
theorem flats_ints {k : IntKind} (zs : List Int) : flats (zs.map (PV.int k)) = true := flats_of fun x hx => by
  obtain ⟨z, _, rfl⟩ := List.mem_map.1 hx; rfl
theorem rep_ints {W : World} {a : Addr} {len cap : Nat} {k : IntKind} {zs : List Int} (hl : len ≤ zs.length) (hcap : len ≤ cap) (hc : ∀ i, i < zs.length → W.cell? (a.add i) = some (.int k (zs.getD i 0))) :
    Rep (cx0 W) .empty W (.vsl ((zs.take len).map (PV.int k)) len none) (.slice (some a) len cap) := by
  by_cases h0 : len = 0
  · subst h0
    exact .vsl0 _ _ _ _ (fun x hx => by cases hx) hcap
  · have h1 := hc 0 (by omega)
    have e0 : a.add 0 = a := rfl
    rw [e0] at h1
    obtain ⟨h2, h3⟩ := cell_lt h1
    obtain ⟨B, o, sp⟩ := a
    simp only at h2 h3
    subst h3
    refine .vsl _ ((zs.take len).map (Value.int k)) B o len none cap (flats_ints _) h2 ?_ (reps_ints _) (fun x hx => by cases hx) hcap
    intro i v hv
    rw [List.getElem?_map] at hv
    cases hz : (zs.take len)[i]? with
    | none => rw [hz] at hv; cases hv
    | some z =>
      rw [hz] at hv
      cases hv
      have hz' := List.getElem?_eq_some_iff.1 hz
      have hi : i < zs.length := by
        have := hz'.1
        rw [List.length_take] at this
        omega
      have h4 := hc i hi
      rw [add_at] at h4
      rw [h4]
      have : zs.getD i 0 = z := by
        rw [List.getElem?_take] at hz
        split at hz
        · rw [List.getD_eq_getElem?_getD, hz]; rfl
        · cases hz
      rw [this]
theorem u68 : P.underlying 68 = some (.int .u32) := Go.Proofs.Tryz.underlying68
theorem cells68 : P.cellsOf 68 = 1 := by kernel_rfl
theorem cells3 : P.cellsOf 3 = 1 := by kernel_rfl
theorem cells4 : P.cellsOf 4 = 1 := by kernel_rfl
theorem cells34 : P.cellsOf 34 = 1 := by kernel_rfl
theorem cells36 : P.cellsOf 36 = 3 := by kernel_rfl
section
variable {H : Type} {enc : TypeId × Value → H} {W : World} {fuel : Nat}
theorem toNats : ∀ (zs : List Int), (∀ z ∈ zs, (Lit.int .u32 z).wf = true) → ∃ a : List Nat, zs.map (PV.int .u32) = cu a ∧ a.length = zs.length ∧ Ok a
  | [], _ => ⟨[], rfl, rfl, .nil⟩
  | z :: zs, h => by
    obtain ⟨a, h1, h2, h3⟩ := toNats zs fun y hy => h y (by simp [hy])
    have hz := h z (by simp)
    simp only [Lit.wf, IntKind.min, IntKind.max, IntKind.signed, IntKind.bits] at hz
    have hz' : 0 ≤ z ∧ z < 4294967296 := by
      simp at hz
      omega
    refine ⟨z.toNat :: a, ?_, by simp [h2], .cons (by show z.toNat < 4294967296; omega) h3⟩
    simp only [List.map_cons, cu]
    rw [show ((z.toNat : Nat) : Int) = z from Int.toNat_of_nonneg hz'.1]
    congr 1
theorem read_limbs {v : Value} {x : DataW H × List MemPlace} (h : DataW.trod enc P W 0 (fun _ => true) true fuel 34 [v] = some x) : ∃ p a, Rep (cx0 W) .empty W p v ∧ Lim a p ∧ Ok a := by
  rcases ChangeShapes.open_ints Go.Proofs.Tryz.underlying34 u68 cells68 h with ⟨hcs, _⟩ | ⟨a, len, cap, zs, hcs, _, hl, _, hzl, _, hc, hwf⟩
  · cases hcs
    exact ⟨.nils, [], .nils, .inl ⟨rfl, rfl⟩, .nil⟩
  · cases hcs
    simp only [if_true] at hzl
    have hr := rep_ints (k := .u32) (show len ≤ zs.length by omega) hl hc
    obtain ⟨b, h1, h2, h3⟩ := toNats (zs.take len) fun z hz => hwf z (List.mem_of_mem_take hz)
    rw [h1] at hr
    have hbl : b.length = len := by rw [h2, List.length_take]; omega
    exact ⟨_, b, hr, .inr ⟨none, by rw [hbl]⟩, h3⟩
theorem read_edits {v : Value} {x : DataW H × List MemPlace} (h : DataW.trod enc P W 0 (fun _ => true) true fuel 22 [v] = some x) : ∃ p zs, Rep (cx0 W) .empty W p v ∧ Ed zs p := by
  rcases ChangeShapes.open_ints Go.Proofs.Tryz.underlying22 Go.Proofs.Tryz.underlying3 cells3 h with ⟨hcs, _⟩ | ⟨a, len, cap, zs, hcs, _, hl, _, hzl, _, hc, hwf⟩
  · cases hcs
    exact ⟨.nils, [], .nils, .inl ⟨rfl, rfl⟩⟩
  · cases hcs
    simp only [if_true] at hzl
    have hr := rep_ints (k := .i64) (show len ≤ zs.length by omega) hl hc
    exact ⟨_, zs.take len, hr, .inr ⟨none, by rw [List.length_take, Nat.min_eq_left (by omega)]⟩⟩
theorem read_rat {cs : List Value} {x : DataW H × List MemPlace} (h : DataW.trod enc P W 0 (fun _ => true) true fuel 36 cs = some x) :
    ∃ s v1 v2 pa pb, cs = [.bool s, v1, v2] ∧ RawOk (s, pa, pb) ∧ Rep (cx0 W) .empty W pa v1 ∧ Rep (cx0 W) .empty W pb v2 := by
  obtain ⟨xs, n, _, _, hlen, hxs, hf⟩ := DataW.trod_struct Go.Proofs.Tryz.underlying36 h
  rw [cells36] at hlen
  match cs, hlen with
  | [c0, c1, c2], _ =>
    have hx3 : xs.length = 3 := hxs
    match xs, hx3 with
    | [x0, x1, x2], _ =>
      have f0 := hf 0 _ rfl
      have f1 := hf 1 _ rfl
      have f2 := hf 2 _ rfl
      change DataW.trod enc P W 0 (fun _ => true) true n 4 (([c0, c1, c2].drop 0).take (P.cellsOf 4)) = some x0 at f0
      change DataW.trod enc P W 0 (fun _ => true) true n 34 (([c0, c1, c2].drop 1).take (P.cellsOf 34)) = some x1 at f1
      change DataW.trod enc P W 0 (fun _ => true) true n 34 (([c0, c1, c2].drop 2).take (P.cellsOf 34)) = some x2 at f2
      rw [cells4] at f0
      rw [cells34] at f1 f2
      have f0' : DataW.trod enc P W 0 (fun _ => true) true n 4 [c0] = some x0 := f0
      have f1' : DataW.trod enc P W 0 (fun _ => true) true n 34 [c1] = some x1 := f1
      have f2' : DataW.trod enc P W 0 (fun _ => true) true n 34 [c2] = some x2 := f2
      obtain ⟨s, hs, _⟩ := DataW.trod_bool Go.Proofs.Tryz.underlying4 f0'
      cases hs
      obtain ⟨pa, a, r1, l1, o1⟩ := read_limbs f1'
      obtain ⟨pb, b, r2, l2, o2⟩ := read_limbs f2'
      exact ⟨s, c1, c2, pa, pb, rfl, ⟨a, b, l1, l2, o1, o2⟩, r1, r2⟩
theorem reps_app {c : Cx} {m : PM} {w : World} : ∀ {a b : List PV} {us vs : List Value}, Reps c m w a us → Reps c m w b vs → Reps c m w (a ++ b) (us ++ vs)
  | [], _, _, _, .nil, h => h
  | _ :: _, _, _, _, .cons x v xs us hx hs, h => .cons x v _ _ hx (reps_app hs h)
theorem vc_app (a b : List (Bool × PV × PV)) : vc (a ++ b) = vc a ++ vc b := by simp [vc]
theorem vc_flats : ∀ {rs : List (Bool × PV × PV)}, (∀ x ∈ rs, RawOk x) → flats (vc rs) = true := by
  intro rs h
  refine flats_of fun p hp => ?_
  simp only [vc, List.mem_flatMap] at hp
  obtain ⟨x, hx, hp⟩ := hp
  obtain ⟨a, b, l1, l2, _, _⟩ := h x hx
  simp only [List.mem_cons, List.not_mem_nil, or_false] at hp
  rcases hp with rfl | rfl | rfl
  · rfl
  · exact l1.flat
  · exact l2.flat
theorem read_vals {v : Value} {x : DataW H × List MemPlace} (h : DataW.trod enc P W 0 (fun _ => true) true fuel 23 [v] = some x) : ∃ p rs, Rep (cx0 W) .empty W p v ∧ Va rs p ∧ ∀ y ∈ rs, RawOk y := by
  rcases DataW.trod_slice Go.Proofs.Tryz.underlying23 h with ⟨hcs, _⟩ | ⟨a, len, cap, elems, rest, n, _, hcs, _, _, hl, _, hel, hx, _, _⟩
  · cases hcs
    exact ⟨.nils, [], .nils, .inl ⟨rfl, rfl⟩, nofun⟩
  · cases hcs
    by_cases h0 : len = 0
    · subst h0
      exact ⟨.vsl [] 0 none, [], .vsl0 _ _ _ _ (fun x hx => by cases hx) hl, .inr ⟨none, rfl⟩, nofun⟩
    · rw [cells36] at hx
      have each : ∀ i, i < len → ∃ cs y, W.cells? 0 (a.add (i * 3)) 3 = some cs ∧ DataW.trod enc P W 0 (fun _ => true) true n 36 cs = some y := by
        intro i hi
        have e := hx i hi
        have : elems[i]? = some elems[i] := List.getElem?_eq_getElem (by omega)
        rw [this] at e
        obtain ⟨cs, h1, h2⟩ := Option.bind_eq_some_iff.1 e
        exact ⟨cs, _, h1, h2⟩
      have hsp : a.block < W.heap.size ∧ a.spot = none := by
        obtain ⟨cs, y, h1, _⟩ := each 0 (by omega)
        obtain ⟨_, h3, h4⟩ := World.cells?_some h1
        have h5 := h4 0 (by decide)
        rw [List.getElem?_eq_getElem (by omega)] at h5
        exact cell_lt (a := a) h5
      obtain ⟨B, o, sp⟩ := a
      simp only at hsp
      obtain ⟨hB, rfl⟩ := hsp
      have key : ∀ k, k ≤ len → ∃ (rs : List (Bool × PV × PV)) (us : List Value), rs.length = k ∧ us.length = k * 3 ∧ Reps (cx0 W) .empty W (vc rs) us ∧ (∀ i v, us[i]? = some v → W.cell? ⟨B, o + i, none⟩ = some v) ∧ ∀ y ∈ rs, RawOk y := by
        intro k
        induction k with
        | zero => intro _; exact ⟨[], [], rfl, rfl, .nil, fun i v h => by simp at h, nofun⟩
        | succ k ih =>
          intro hk
          obtain ⟨rs, us, h1, h2, h3, h4, h5⟩ := ih (by omega)
          obtain ⟨cs, y, c1, c2⟩ := each k (by omega)
          obtain ⟨s, v1, v2, pa, pb, rfl, ok, r1, r2⟩ := read_rat c2
          obtain ⟨_, _, c4⟩ := World.cells?_some c1
          refine ⟨rs ++ [(s, pa, pb)], us ++ [.bool s, v1, v2], by simp [h1], by simp [h2]; omega, ?_, ?_, ?_⟩
          · rw [vc_app]
            exact reps_app h3 (.cons _ _ _ _ (.bool s) (.cons _ _ _ _ r1 (.cons _ _ _ _ r2 .nil)))
          · intro i v hv
            by_cases hi : i < us.length
            · rw [List.getElem?_append_left hi] at hv
              exact h4 i v hv
            · rw [List.getElem?_append_right (by omega)] at hv
              have hi3 : i - us.length < 3 := (List.getElem?_eq_some_iff.1 hv).1
              have := c4 (i - us.length) hi3
              rw [hv, add_at, add_at] at this
              rw [← this]
              congr 2
              omega
          · intro y hy
            rcases List.mem_append.1 hy with hy | hy
            · exact h5 y hy
            · rw [List.mem_singleton] at hy
              subst hy
              exact ok
      obtain ⟨rs, us, h1, _, h3, h4, h5⟩ := key len (Nat.le_refl _)
      refine ⟨.vsl (vc rs) len none, rs, .vsl _ us B o len none cap (vc_flats h5) hB h4 h3 (fun x hx => by cases hx) hl, .inr ⟨none, by rw [h1]⟩, h5⟩
end
end Go.Ab.T
