/- The interpreter: operations on memory, maps, builtins. -/
import Derived.Test.YtkidolggnmomcaaGreatDoorAa
import Derived.Laws.CopyRow
import Derived.Laws.Append
import Derived.Lib.UnsafeStr
import Derived.Laws.RangeString
set_option linter.unusedVariables false
set_option linter.unusedSimpArgs false
/- The memory: how a change of a block or a new block is carried on. -/
namespace Go.Ab
section
variable {P : Program} {c : Cx} {m : PM} {w w' : World}

theorem mut_get {b : Nat} {blk : Blk} (hb : m.get b = some blk) : Mut m b ↔ blk.mut = true :=
  ⟨fun ⟨x, h1, h2⟩ => by rw [hb] at h1; cases h1; exact h2, fun h => ⟨blk, hb, h⟩⟩

theorem BlkAt.carry {c' : Cx} {m' : PM} (h : Carry c m w c' m' w') {b : Nat} {blk : Blk} (hβ : c'.β b = c.β b) (hh : w'.heap[c.β b]? = w.heap[c.β b]?) (hb : BlkAt c m w b blk) : BlkAt c' m' w' b blk := by
  cases blk with
  | cells cs g frz et =>
    obtain ⟨arr, fz, vs, h2, h3, h4, h5, h6⟩ := hb
    exact ⟨arr, fz, vs, by rw [hβ, hh]; exact h2, h3.carry h, h4, h5, fun e => by rw [hβ]; exact (h.S _ (h6 e)).1⟩
  | map es =>
    obtain ⟨en, h2, h3⟩ := hb
    exact ⟨en, by rw [hβ, hh]; exact h2, h3.carry h⟩
  | iter s p => show w'.heap[c'.β b]? = _; rw [hβ, hh]; exact hb

/-- a block that may be written is written -/
theorem ext_upd {b : Nat} {blk blk' : Blk} (hM : MemRel c m w) (hL : c.L b) (hb : m.get b = some blk) (hmu : blk.mut = true) (hmu' : blk'.mut = true) (hle : blk.le blk') (hsz : w'.heap.size = w.heap.size) (hold : ∀ B, B ≠ c.β b → w'.heap[B]? = w.heap[B]?)
    (hroom : ∀ (arr : Array Value) (et : TypeId) (fz : Nat × Nat), w.heap[c.β b]? = some (.cells arr et fz) → ∃ (arr' : Array Value) (fz' : Nat × Nat), w'.heap[c.β b]? = some (.cells arr' et fz') ∧ arr'.size = arr.size)
    (hos : w'.os = w.os ∧ w'.output = w.output ∧ w'.tape = w.tape) (hnew : Carry c m w c (m.upd b blk') w' → BlkAt c (m.upd b blk') w' b blk') :
    Ext c m w c (m.upd b blk') w' ∧ MemRel c (m.upd b blk') w' := by
  have hg : ∀ k, (m.upd b blk').get k = if b = k then some blk' else m.get k := fun k => PM.get_upd m b k blk'
  have hmut : ∀ k, Mut (m.upd b blk') k → Mut m k := by
    rintro k ⟨x, h1, h2⟩
    rw [hg] at h1
    split at h1
    · rename_i e; subst e; exact ⟨blk, hb, hmu⟩
    · exact ⟨x, h1, h2⟩
  have hE : Ext c m w c (m.upd b blk') w' := {
    size := by omega
    old := fun B _ hn => by
      by_cases he : B = c.β b
      · subst he; exact absurd ⟨blk, hb, hmu⟩ (hn b hL rfl)
      · exact hold B he
    rho := rfl
    S1 := fun _ h => h
    S2 := fun _ h => .inl h
    L1 := fun _ h => h
    L2 := fun _ h => .inl h
    blk := fun k x _ hx => by
      rw [hg]
      split
      · rename_i e; subst e; rw [hb] at hx; cases hx; exact ⟨blk', rfl, hle, fun _ => rfl⟩
      · exact ⟨x, hx, Blk.le_refl x, fun _ => rfl⟩
    unl := fun k hk _ => by
      rw [hg, if_neg]
      intro e; subst e; exact hk hL
    next := Nat.le_refl _
    mut' := fun k hk hmk => .inr ⟨k, hk, hmut k hmk, rfl⟩
    room := fun B arr et fz h => by
      by_cases he : B = c.β b
      · subst he; exact hroom arr et fz h
      · exact ⟨arr, fz, by rw [hold B he]; exact h, rfl⟩
    os := hos }
  have hC := hE.carry hM
  refine ⟨hE, ⟨?_, ?_, ?_, ?_, ?_, ?_⟩⟩
  · intro k hk
    rw [hg, if_neg]
    · exact hM.fresh k hk
    · intro e; subst e
      have := L_lt hM hL
      have : (m.upd b blk').next = m.next := rfl
      omega
  · intro k hk
    rw [hg]
    split
    · exact ⟨_, rfl⟩
    · exact hM.dom k hk
  · intro k x hk hx
    rw [hg] at hx
    split at hx
    · rename_i e; subst e; cases hx; exact hnew hC
    · rename_i e
      refine (hM.blk k x hk hx).carry hC rfl (hold _ ?_)
      exact fun e' => hM.inj b k hL hk e ⟨blk, hb, hmu⟩ e'.symm
  · intro k k' hk hk' hne hmk
    exact hM.inj k k' hk hk' hne (hmut k hmk)
  · intro B hB; rw [hsz]; exact hM.Slt B hB
  · intro k hk hmk; exact hM.Smut k hk (hmut k hmk)

def Cx.frz (c : Cx) (b : Nat) : Cx := { c with S := fun B => c.S B ∨ B = c.β b }
/-- a block that may be written is frozen -/
theorem ext_frz {b : Nat} {blk blk' : Blk} (hM : MemRel c m w) (hL : c.L b) (hb : m.get b = some blk) (hmu : blk.mut = true) (hmu' : blk'.mut = false) (hle : blk.le blk') (hsz : w'.heap.size = w.heap.size) (hold : ∀ B, B ≠ c.β b → w'.heap[B]? = w.heap[B]?)
    (hroom : ∀ (arr : Array Value) (et : TypeId) (fz : Nat × Nat), w.heap[c.β b]? = some (.cells arr et fz) → ∃ (arr' : Array Value) (fz' : Nat × Nat), w'.heap[c.β b]? = some (.cells arr' et fz') ∧ arr'.size = arr.size)
    (hos : w'.os = w.os ∧ w'.output = w.output ∧ w'.tape = w.tape) (hnew : Carry c m w (c.frz b) (m.upd b blk') w' → BlkAt (c.frz b) (m.upd b blk') w' b blk') :
    Ext c m w (c.frz b) (m.upd b blk') w' ∧ MemRel (c.frz b) (m.upd b blk') w' := by
  have hg : ∀ k, (m.upd b blk').get k = if b = k then some blk' else m.get k := fun k => PM.get_upd m b k blk'
  have hmut : ∀ k, Mut (m.upd b blk') k → Mut m k ∧ k ≠ b := by
    rintro k ⟨x, h1, h2⟩
    rw [hg] at h1
    split at h1
    · rename_i e; cases h1; rw [hmu'] at h2; cases h2
    · rename_i e; exact ⟨⟨x, h1, h2⟩, fun e' => e e'.symm⟩
  have hE : Ext c m w (c.frz b) (m.upd b blk') w' := {
    size := by omega
    old := fun B _ hn => by
      by_cases he : B = c.β b
      · subst he; exact absurd ⟨blk, hb, hmu⟩ (hn b hL rfl)
      · exact hold B he
    rho := rfl
    S1 := fun _ h => .inl h
    S2 := fun B h => by
      rcases h with h | h
      · exact .inl h
      · exact .inr (.inr ⟨b, hL, ⟨blk, hb, hmu⟩, h.symm⟩)
    L1 := fun _ h => h
    L2 := fun _ h => .inl h
    blk := fun k x _ hx => by
      rw [hg]
      split
      · rename_i e; subst e; rw [hb] at hx; cases hx; exact ⟨blk', rfl, hle, fun _ => rfl⟩
      · exact ⟨x, hx, Blk.le_refl x, fun _ => rfl⟩
    unl := fun k hk _ => by
      rw [hg, if_neg]
      intro e; subst e; exact hk hL
    next := Nat.le_refl _
    mut' := fun k hk hmk => .inr ⟨k, hk, (hmut k hmk).1, rfl⟩
    room := fun B arr et fz h => by
      by_cases he : B = c.β b
      · subst he; exact hroom arr et fz h
      · exact ⟨arr, fz, by rw [hold B he]; exact h, rfl⟩
    os := hos }
  have hC := hE.carry hM
  refine ⟨hE, ⟨?_, ?_, ?_, ?_, ?_, ?_⟩⟩
  · intro k hk
    rw [hg, if_neg]
    · exact hM.fresh k hk
    · intro e; subst e
      have := L_lt hM hL
      have : (m.upd b blk').next = m.next := rfl
      omega
  · intro k hk
    rw [hg]
    split
    · exact ⟨_, rfl⟩
    · exact hM.dom k hk
  · intro k x hk hx
    rw [hg] at hx
    split at hx
    · rename_i e; subst e; cases hx; exact hnew hC
    · rename_i e
      refine (hM.blk k x hk hx).carry hC rfl (hold _ ?_)
      exact fun e' => hM.inj b k hL hk e ⟨blk, hb, hmu⟩ e'.symm
  · intro k k' hk hk' hne hmk
    exact hM.inj k k' hk hk' hne (hmut k hmk).1
  · intro B hB
    rw [hsz]
    rcases hB with h | h
    · exact hM.Slt B h
    · rw [h]; exact Mut.lt hM hL
  · intro k hk hmk hS
    obtain ⟨h1, h2⟩ := hmut k hmk
    rcases hS with h | h
    · exact hM.Smut k hk h1 h
    · exact hM.inj b k hL hk (fun e => h2 e.symm) ⟨blk, hb, hmu⟩ h.symm

def Cx.move (c : Cx) (b B : Nat) : Cx := { c with β := fun k => if k = b then B else c.β k, L := fun k => c.L k ∨ k = b }
theorem move_β (c : Cx) (b B : Nat) : (c.move b B).β b = B := if_pos rfl
theorem move_β' (c : Cx) {b B k : Nat} (h : k ≠ b) : (c.move b B).β k = c.β k := if_neg h

/-- a block is laid anew at the heap's end (or is new) -/
theorem ext_move {b : Nat} {m' : PM} {o : Obj} {blk' : Blk} (hM : MemRel c m w) (hcase : (c.L b ∧ ∃ blk, m.get b = some blk ∧ blk.mut = true ∧ blk.le blk' ∧ blk.gen < blk'.gen ∧ m' = m.upd b blk') ∨ (b = m.next ∧ m' = m.new blk')) (hmu' : blk'.mut = true)
    (hh : w'.heap = w.heap.push o) (hos : w'.os = w.os ∧ w'.output = w.output ∧ w'.tape = w.tape) (hnew : Carry c m w (c.move b w.heap.size) m' w' → BlkAt (c.move b w.heap.size) m' w' b blk') :
    Ext c m w (c.move b w.heap.size) m' w' ∧ MemRel (c.move b w.heap.size) m' w' := by
  have hg : ∀ k, m'.get k = if b = k then some blk' else m.get k := by
    rcases hcase with ⟨_, _, _, _, _, _, rfl⟩ | ⟨rfl, rfl⟩
    · exact fun k => PM.get_upd m b k blk'
    · exact fun k => PM.get_new m k blk'
  have hb' : b < m'.next ∧ m.next ≤ m'.next ∧ ∀ k, m'.next ≤ k → m.next ≤ k ∧ k ≠ b := by
    rcases hcase with ⟨hL, _, _, _, _, _, rfl⟩ | ⟨rfl, rfl⟩
    · have := L_lt hM hL
      have e : (m.upd b blk').next = m.next := rfl
      exact ⟨by omega, by omega, fun k hk => ⟨by omega, by omega⟩⟩
    · have e : (m.new blk').next = m.next + 1 := rfl
      exact ⟨by omega, by omega, fun k hk => ⟨by omega, by omega⟩⟩
  have hold : ∀ B, B < w.heap.size → w'.heap[B]? = w.heap[B]? := fun B hB => by rw [hh, Array.getElem?_push]; simp; omega
  have hLb : ∀ k, c.L k → k = b → ∃ blk, m.get b = some blk ∧ blk.mut = true ∧ blk.le blk' ∧ blk.gen < blk'.gen := by
    intro k hk e
    subst e
    rcases hcase with ⟨_, blk, h1, h2, h3, h4, _⟩ | ⟨rfl, _⟩
    · exact ⟨blk, h1, h2, h3, h4⟩
    · have := L_lt hM hk; omega
  have hE : Ext c m w (c.move b w.heap.size) m' w' := {
    size := by rw [hh]; simp
    old := fun B hB _ => hold B hB
    rho := rfl
    S1 := fun _ h => h
    S2 := fun _ h => .inl h
    L1 := fun _ h => .inl h
    L2 := fun k h => by
      rcases h with h | rfl
      · exact .inl h
      · rcases hcase with ⟨hL, _⟩ | ⟨e, _⟩
        · exact .inl hL
        · exact .inr (by omega)
    blk := fun k x hk hx => by
      rw [hg]
      by_cases e : b = k
      · subst e
        obtain ⟨blk, h1, h2, h3, h4⟩ := hLb b hk rfl
        rw [h1] at hx; cases hx
        exact ⟨blk', if_pos rfl, h3, fun e => by omega⟩
      · exact ⟨x, by rw [if_neg e]; exact hx, Blk.le_refl x, fun _ => move_β' c (fun h => e h.symm)⟩
    unl := fun k hk hlt => by
      rw [hg, if_neg]
      intro e; subst e
      rcases hcase with ⟨hL, _⟩ | ⟨e, _⟩
      · exact hk hL
      · omega
    next := hb'.2.1
    mut' := fun k hk hmk => by
      by_cases e : k = b
      · subst e; exact .inl (by rw [move_β]; exact Nat.le_refl _)
      · refine .inr ⟨k, hk.resolve_right e, ?_, (move_β' c e).symm⟩
        obtain ⟨x, h1, h2⟩ := hmk
        rw [hg, if_neg (fun h => e h.symm)] at h1
        exact ⟨x, h1, h2⟩
    room := fun B arr et fz h => ⟨arr, fz, by rw [hold B (Array.getElem?_eq_some_iff.1 h).1]; exact h, rfl⟩
    os := hos }
  have hC := hE.carry hM
  refine ⟨hE, ⟨?_, ?_, ?_, ?_, ?_, ?_⟩⟩
  · intro k hk
    obtain ⟨h1, h2⟩ := hb'.2.2 k hk
    rw [hg, if_neg (fun e => h2 e.symm)]
    exact hM.fresh k h1
  · intro k hk
    rw [hg]
    split
    · exact ⟨_, rfl⟩
    · rename_i e
      exact hM.dom k (hk.resolve_right (fun h => e h.symm))
  · intro k x hk hx
    rw [hg] at hx
    split at hx
    · rename_i e; subst e; cases hx; exact hnew hC
    · rename_i e
      have hk' := hk.resolve_right (fun h => e h.symm)
      exact (hM.blk k x hk' hx).carry hC (move_β' c (fun h => e h.symm)) (hold _ (Mut.lt hM hk'))
  · intro k k' hk hk' hne hmk
    by_cases e : k = b
    · subst e
      have e' : k' ≠ k := fun h => hne h.symm
      rw [move_β, move_β' c e']
      have := Mut.lt hM (hk'.resolve_right e')
      omega
    · rw [move_β' c e]
      by_cases e' : k' = b
      · subst e'; rw [move_β]
        have := Mut.lt hM (hk.resolve_right e)
        omega
      · rw [move_β' c e']
        obtain ⟨x, h1, h2⟩ := hmk
        rw [hg, if_neg (fun h => e h.symm)] at h1
        exact hM.inj k k' (hk.resolve_right e) (hk'.resolve_right e') hne ⟨x, h1, h2⟩
  · intro B hB; rw [hh]; simp; have := hM.Slt B hB; omega
  · intro k hk hmk hS
    by_cases e : k = b
    · subst e; rw [move_β] at hS; have := hM.Slt _ hS; omega
    · rw [move_β' c e] at hS
      obtain ⟨x, h1, h2⟩ := hmk
      rw [hg, if_neg (fun h => e h.symm)] at h1
      exact hM.Smut k (hk.resolve_right e) ⟨x, h1, h2⟩ hS

/-- what was there keeps standing when only the count of draws turns -/
theorem MemRel.heap (hM : MemRel c m w) (hh : w'.heap = w.heap) (hos : w'.os = w.os ∧ w'.output = w.output ∧ w'.tape = w.tape) : Ext c m w c m w' ∧ MemRel c m w' := by
  have hE : Ext c m w c m w' := {
    size := by rw [hh]; exact Nat.le_refl _
    old := fun B _ _ => by rw [hh]
    rho := rfl
    S1 := fun _ h => h
    S2 := fun _ h => .inl h
    L1 := fun _ h => h
    L2 := fun _ h => .inl h
    blk := fun _ x _ h => ⟨x, h, Blk.le_refl x, fun _ => rfl⟩
    unl := fun _ _ _ => rfl
    next := Nat.le_refl _
    mut' := fun b h hm => .inr ⟨b, h, hm, rfl⟩
    room := fun B arr et fz h => ⟨arr, fz, by rw [hh]; exact h, rfl⟩
    os := hos }
  have hC := hE.carry hM
  exact ⟨hE, ⟨hM.fresh, hM.dom, fun b x hL hx => (hM.blk b x hL hx).carry hC rfl (by rw [hh]), hM.inj, fun B hB => by rw [hh]; exact hM.Slt B hB, hM.Smut⟩⟩
end
end Go.Ab
/- The operations on the memory: what the interpreter answers, the model does. -/
namespace Go.Ab
section
variable {P : Program} {c : Cx} {m : PM} {w : World}

/-- an operation on the memory is as the interpreter says -/
def MOk (P : Program) (c : Cx) (m : PM) (w : World) (s : Sem Value) (p : PV) (m' : PM) : Prop :=
  ∃ v w' c', s.run P w = .ok v w' ∧ Ext c m w c' m' w' ∧ MemRel c' m' w' ∧ Rep c' m' w' p v
theorem MOk.same {s : Sem Value} {p : PV} {v : Value} (hM : MemRel c m w) (h : s.run P w = .ok v w) (hr : Rep c m w p v) : MOk P c m w s p m := ⟨v, w, c, h, .refl, hM, hr⟩

theorem blk_cells {b g off n : Nat} {cs l : List PV} {frz : Bool} {et : Nat} (hM : MemRel c m w) (hL : c.L b) (hb : m.get b = some (.cells cs g frz et)) (hc : cutN cs off n = some l) :
    ∃ vs, Reps c m w l vs ∧ At w (c.β b) off vs ∧ vs.length = n := by
  obtain ⟨arr, fz, vs, h1, h2, h3, _, _⟩ := hM.blk b _ hL hb
  obtain ⟨hle, rfl⟩ := cutN_some hc
  refine ⟨(vs.drop off).take n, (h2.drop off).take n, ?_, ?_⟩
  · have hat : At w (c.β b) 0 vs := fun i v hv => by
      have := h3 i v hv
      simp [World.cell?, h1, this]
    have := (hat.drop off).take n
    simpa using this
  · have := h2.length; simp; omega

theorem ld_sound {p : PV} {n : Nat} {l : List PV} {v : Value} (hM : MemRel c m w) (hp : Rep c m w p v) (h : ldCells m (some p) n = some l) :
    ∃ B o vs, v = .pointer (some ⟨B, o, none⟩) ∧ Reps c m w l vs ∧ At w B o vs ∧ vs.length = n := by
  unfold ldCells at h
  split at h
  · rename_i b g off e
    cases e
    split at h
    · rename_i cs g' frz et hb
      obtain ⟨h1, h2⟩ := bif_some h
      clear h
      have hg := beq_t h1
      subst hg
      cases hp with
      | ptr _ _ _ blk a hL hb' hgg ha =>
      rw [hb] at hb'; cases hb'
      obtain ⟨vs, h3, h4, h5⟩ := blk_cells hM hL hb h2
      exact ⟨c.β b, off, vs, by rw [ha rfl], h3, h4, h5⟩
    · cases h
  · rename_i cs e
    cases e
    cases hp with
    | vptr _ vs B o _ hS hat hr =>
    obtain ⟨hle, rfl⟩ := cutN_some h
    refine ⟨B, o, vs.take n, rfl, by simpa using hr.take n, hat.take n, ?_⟩
    have := hr.length; simp; omega
  · cases h

theorem load_sound {t : Nat} {i : TI} {B o : Nat} {vs : List Value} (hk : TyOk P t i) (hat : At w B o vs) (hlen : vs.length = i.sz) :
    (i.agg = true → (loadVar t ⟨B, o, none⟩).run P w = .ok (.agg ⟨vs⟩) w) ∧ (i.agg = false → ∀ u, vs = [u] → (loadVar t ⟨B, o, none⟩).run P w = .ok u w) := by
  obtain ⟨info, d, h1, h2, h3, h4, _⟩ := hk.ex
  have U := run_underlying h2 w
  have S := run_sizeOf (P := P) (w := w) h1
  have hc : P.cellsOf t = i.sz := by simp [Program.cellsOf, h1, h3]
  constructor
  · intro ha
    rw [ha] at h4
    unfold loadVar isAgg
    have hl := load_at (P := P) hat i.sz hlen
    cases d <;> simp [aggD] at h4 <;> simp [U, S, hc, hl]
  · intro ha u hu
    rw [ha] at h4
    subst hu
    have hcell := at_one hat
    unfold loadVar isAgg
    cases d <;> simp [aggD] at h4 <;> simp [U, hcell]

theorem mLoad_sound {t : Nat} {i : TI} {p q : PV} {v : Value} {m' : PM} (hM : MemRel c m w) (hk : TyOk P t i) (hp : Rep c m w p v) (h : mLoad (some i) m (some p) = some (q, m')) :
    m' = m ∧ ∃ a u, v = .pointer (some a) ∧ (loadVar t a).run P w = .ok u w ∧ Rep c m w q u := by
  simp only [mLoad] at h
  split at h
  · rename_i l hl
    obtain ⟨B, o, vs, rfl, h2, h3, h4⟩ := ld_sound hM hp hl
    obtain ⟨l1, l2⟩ := load_sound hk h3 h4
    cases ha : i.agg with
    | true =>
      rw [ha] at h; cases h
      exact ⟨rfl, _, _, rfl, l1 ha, .agg _ _ h2⟩
    | false =>
      rw [ha] at h
      simp only [cond_false] at h
      split at h
      · cases h
        obtain ⟨u, rfl, hu⟩ := h2.one
        exact ⟨rfl, _, u, rfl, l2 ha u rfl, hu⟩
      · cases h
  · cases h

theorem cellsOk_get : ∀ {l : List PV}, cellsOk l = true → ∀ x ∈ l, cellOk x = true
  | [], _, _, h => by cases h
  | y :: l, h, x, hx => by
    simp only [cellsOk] at h
    cases hy : cellOk y with
    | false => rw [hy] at h; cases h
    | true =>
      rw [hy] at h
      rcases List.mem_cons.1 hx with rfl | hx
      · exact hy
      · exact cellsOk_get h x hx
theorem cells_ones : ∀ {l : List PV} {vs : List Value}, Reps c m w l vs → cellsOk l = true → ∀ v ∈ vs, v.oneCell' = true
  | _, _, .nil, _, _, h => by cases h
  | _, _, .cons x v xs vs hx hs, h, u, hu => by
    have h1 : cellOk x = true := cellsOk_get h x (by simp)
    have h2 : cellsOk xs = true := by simp only [cellsOk, h1, cond_true] at h; exact h
    rcases List.mem_cons.1 hu with rfl | hu
    · exact rep_one hx h1
    · exact cells_ones hs h2 u hu

theorem setRow_eq {B : Nat} {arr arr' : Array Value} {et : TypeId} {fz : Nat × Nat} (hB : w.heap[B]? = some (.cells arr et fz)) :
    (w.setRow B arr').heap.size = w.heap.size ∧ (w.setRow B arr').heap[B]? = some (.cells arr' et fz) ∧ (∀ B', B' ≠ B → (w.setRow B arr').heap[B']? = w.heap[B']?) ∧ (w.setRow B arr').os = w.os ∧ (w.setRow B arr').output = w.output ∧ (w.setRow B arr').tape = w.tape := by
  refine ⟨?_, setRow_heap w B arr arr' et fz hB, ?_, rfl, rfl, rfl⟩
  · unfold World.setRow; simp
  · intro B' h
    unfold World.setRow
    simp only [Array.getElem?_modify]
    rw [if_neg (fun e => h e.symm)]

/-- cells are laid into a block of ours -/
theorem store_sound {b g off : Nat} {cs new cs' : List PV} {us : List Value} {et : Nat} (hM : MemRel c m w) (hL : c.L b) (hb : m.get b = some (.cells cs g false et)) (hr : Reps c m w new us) (h1 : ∀ v ∈ us, v.oneCell' = true) (hp : putN cs off new = some cs') :
    ∃ w', (storeCells ⟨c.β b, off, none⟩ us).run P w = .ok () w' ∧ Ext c m w c (m.upd b (.cells cs' g false et)) w' ∧ MemRel c (m.upd b (.cells cs' g false et)) w' := by
  obtain ⟨arr, fz, vs, h2, h3, h4, h5, h6⟩ := hM.blk b _ hL hb
  have hfz := h5 rfl
  subst hfz
  obtain ⟨hr', hle, hlen⟩ := putN_sound h3 hr hp
  have hvs : vs.length ≤ arr.size := by
    rcases Nat.eq_zero_or_pos vs.length with h0 | h0
    · omega
    · have := h4 (vs.length - 1) vs[vs.length - 1] (by simp)
      have := (Array.getElem?_eq_some_iff.1 this).1
      omega
  have hrun := run_storeCells_at (P := P) (c.β b) off et us 0 arr w h2 (by omega) h1
  obtain ⟨e1, e2, e3, e4⟩ := setRow_eq (arr' := (arr.toList.take (off + 0) ++ us ++ arr.toList.drop (off + 0 + us.length)).toArray) h2
  refine ⟨_, hrun, ?_⟩
  refine ext_upd hM hL hb rfl rfl ⟨Nat.le_refl _, rfl⟩ e1 e3 ?_ e4 ?_
  · intro arr0 et0 fz0 h0
    rw [h2] at h0; cases h0
    exact ⟨_, _, e2, by simp; omega⟩
  · intro hC
    refine ⟨_, _, _, e2, hr'.carry hC, ?_, fun _ => rfl, fun e => by cases e⟩
    intro i v hv
    simp only [Nat.add_zero] at *
    rw [List.getElem?_toArray]
    by_cases hi : i < off
    · rw [List.getElem?_append_left (by simp; omega), List.getElem?_take, if_pos hi] at hv
      rw [List.append_assoc, List.getElem?_append_left (by simp; omega), List.getElem?_take, if_pos hi]
      have := h4 i v hv
      simpa using this
    · rw [List.getElem?_append_right (by simp; omega)] at hv
      rw [List.append_assoc, List.getElem?_append_right (by simp; omega)]
      have e : (vs.take off).length = off := by simp; omega
      have e' : (arr.toList.take off).length = off := by simp; omega
      rw [e] at hv; rw [e']
      by_cases hi2 : i - off < us.length
      · rw [List.getElem?_append_left hi2] at hv ⊢; exact hv
      · rw [List.getElem?_append_right (by omega)] at hv ⊢
        rw [List.getElem?_drop] at hv ⊢
        have := h4 _ v hv
        simpa using this

theorem mStore_sound {t : Nat} {i : TI} {p x q : PV} {a v : Value} {m' : PM} (hM : MemRel c m w) (hk : TyOk P t i) (hp : Rep c m w p a) (hx : Rep c m w x v) (h : mStore (some i) m (some p) (some x) = some (q, m')) :
    q = undefPV ∧ ∃ w', (Instr.storeAt t a v).run P w = .ok () w' ∧ Ext c m w c m' w' ∧ MemRel c m' w' := by
  simp only [mStore] at h
  split at h
  · rename_i b g off e
    cases e
    split at h
    · rename_i cs g' et hb
      obtain ⟨h1, h2⟩ := bif_some h
      clear h
      obtain ⟨h3, h4⟩ := and_t h1
      obtain ⟨h5, h6⟩ := and_t h4
      have hg := beq_t h3
      subst hg
      split at h2
      · rename_i cs' hput
        cases h2
        cases hp with
        | ptr _ _ _ blk a hL hb' hgg ha =>
        rw [hb] at hb'; cases hb'
        have hxc := rep_cells hx
        obtain ⟨info, d, i1, i2, i3, i4, _⟩ := hk.ex
        obtain ⟨w', e1, e2, e3⟩ := store_sound (P := P) hM hL hb hxc (cells_ones hxc h6) hput
        refine ⟨rfl, w', ?_, e2, e3⟩
        rw [ha rfl]
        have hsz : v.cells.size = P.cellsOf t := by
          have := hxc.length
          have := beq_t h5
          simp [Program.cellsOf, i1, i3] at *; omega
        unfold Instr.storeAt storeVar
        simp [Instr.sureAddr, run_sizeOf (P := P) (w := w) i1, hsz, e1]
      · cases h2
    · cases h
  · cases h

/-- a new block of cells -/
theorem newCells_sound {cs : List PV} {et : Nat} {arr : Array Value} {w' : World} (hM : MemRel c m w) (hr : ∃ vs, Reps c m w cs vs ∧ ∀ (i : Nat) (v : Value), vs[i]? = some v → arr[i]? = some v)
    (hh : w'.heap = w.heap.push (.cells arr et (0, 0))) (hos : w'.os = w.os ∧ w'.output = w.output ∧ w'.tape = w.tape) :
    Ext c m w (c.move m.next w.heap.size) (m.new (.cells cs 0 false et)) w' ∧ MemRel (c.move m.next w.heap.size) (m.new (.cells cs 0 false et)) w' := by
  refine ext_move hM (.inr ⟨rfl, rfl⟩) rfl hh hos fun hC => ?_
  obtain ⟨vs, h1, h2⟩ := hr
  refine ⟨arr, (0, 0), vs, ?_, h1.carry hC, h2, fun _ => rfl, fun e => by cases e⟩
  rw [move_β, hh]; simp
theorem newPtr {cs : List PV} {et : Nat} {w' : World} : Rep (c.move m.next w.heap.size) (m.new (.cells cs 0 false et)) w' (.ptr m.next 0 0) (.pointer (some ⟨w.heap.size, 0, none⟩)) :=
  .ptr _ _ _ (.cells cs 0 false et) _ (.inr rfl) (by rw [PM.get_new, if_pos rfl]) (Nat.le_refl _) fun _ => by rw [move_β]

theorem mAlloc_sound {t : Nat} {k : Option TI} {q : PV} {m' : PM} (hM : MemRel c m w) (hk : ∀ i, k = some i → TyOk P t i) (h : mAlloc k t m = some (q, m')) (old : Value) :
    MOk P c m w (Instr.alloc t true old) q m' := by
  unfold mAlloc at h
  split at h
  · rename_i kd sz z
    cases h
    obtain ⟨zv, info, hinf, hz, hzr, hz1, hz2⟩ := zeroOk_run (c := c) (m := m) (w := w) (hk _ rfl).zero rfl
    obtain ⟨h1, h2⟩ := newCells_sound (w' := w.alloc (.cells zv.cells t)) (arr := zv.cells) (et := t) hM ⟨_, hzr, by intro i v; simp⟩ rfl ⟨rfl, rfl, rfl⟩
    exact ⟨_, _, _, by simp [Instr.alloc, hz, newVar, newRow], h1, h2, newPtr⟩
  · cases h

theorem mBox_sound {t : Nat} {x q : PV} {v : Value} {m' : PM} (hM : MemRel c m w) (hx : Rep c m w x v) (h : mBox t m (some x) = some (q, m')) : MOk P c m w (Instr.box t v) q m' := by
  simp only [mBox] at h
  obtain ⟨h1, h2⟩ := bif_some h
  cases h2
  obtain ⟨h3, h4⟩ := newCells_sound (w' := w.alloc (.cells v.cells t)) (arr := v.cells) (et := t) hM ⟨_, rep_cells hx, by intro i v; simp⟩ rfl ⟨rfl, rfl, rfl⟩
  exact ⟨_, _, _, by simp [Instr.box, newVar, newRow], h3, h4, newPtr⟩

theorem wrap64_small {n : Nat} (h : n ≤ maxStr) : IntKind.i64.wrap (n : Int) = n := by
  unfold maxStr at h
  have e1 : (2 : Int) ^ 64 = 18446744073709551616 := by decide
  have e2 : (2 : Int) ^ 63 = 9223372036854775808 := by decide
  simp only [IntKind.wrap, IntKind.signed, IntKind.bits, e1, e2, Bool.true_and, decide_eq_true_eq, ge_iff_le, Nat.add_one_sub_one]
  split <;> omega
theorem maxStr_eq : maxStr = maxLen := by unfold maxStr maxLen; decide

theorem mMakeSlice_sound {t : Nat} {k : Option TI} {l n q : PV} {lv nv : Value} {m' : PM} (hM : MemRel c m w) (hk : ∀ i, k = some i → TyOk P t i) (hl : Rep c m w l lv) (hn : Rep c m w n nv) (h : mMakeSlice k m (some l) (some n) = some (q, m')) :
    MOk P c m w (Instr.makeSlice t lv nv) q m' := by
  unfold mMakeSlice at h
  split at h
  · rename_i e esz eb z sz zz
    obtain ⟨d, hd, hagg, hko⟩ := (hk _ rfl).kd
    obtain ⟨rfl, ⟨info, d', hi', hd', hs', hb', _⟩, hzo⟩ := hko
    have S := run_sizeOf (P := P) (w := w) hi'
    have hc : P.cellsOf e = esz := by simp [Program.cellsOf, hi', hs']
    obtain ⟨zv, info2, hinf, hz, hzr, hz1, hz2⟩ := zeroOk_run (c := c) (m := m) (w := w) hzo rfl
    rw [hi'] at hinf; cases hinf
    split at h
    · rename_i kk a e1
      cases e1
      split at h
      · rename_i kk' a' e2
        cases e2
        obtain ⟨h1, h2⟩ := bif_some h
        clear h
        cases h2
        cases hl; cases hn
        obtain ⟨g1, g2⟩ := and_t h1
        obtain ⟨g3, g4⟩ := and_t g2
        obtain ⟨g5, g6⟩ := and_t g4
        have hle : a ≤ a' := Nat.le_of_ble_eq_true g1
        have hroom : a' * eb ≤ 140737488355328 := Nat.le_of_ble_eq_true g3
        have hmax : a' ≤ maxStr := Nat.le_of_ble_eq_true g5
        have hesz : esz ≠ 0 := nbeq (not_t g6)
        have hzs : zv.cells.size = esz := by rw [hz2, hs']
        have w1 := wrap64_small hmax
        have w2 := wrap64_small (Nat.le_trans hle hmax)
        let arr : Array Value := (Array.range (a' * esz)).map (fun i => (if a' * esz = 0 then #[] else zv.cells)[i % (if a' * esz = 0 then (#[] : Array Value) else zv.cells).size]!)
        have harr : arr.size = a' * esz := by simp [arr]
        have hget : arr.toList = (List.replicate a' zv.cells.toList).flatten := by
          by_cases h0 : a' * esz = 0
          · have : a' = 0 := by
              rcases Nat.eq_zero_or_pos a' with h | h
              · exact h
              · have := Nat.mul_pos h (Nat.pos_of_ne_zero hesz); omega
            subst this; simp [arr]
          · have := repN_get (l := zv.cells.toList) rfl a'
            rw [hzs] at this
            rw [← this]
            simp only [arr, h0, if_false, hzs]
        obtain ⟨h3, h4⟩ := newCells_sound (w' := w.alloc (.cells arr e)) (cs := repN z a) (arr := arr) (et := e) hM ⟨_, repN_sound hzr a, by
          intro i v hv
          have : arr.toList[i]? = some v := by
            rw [hget, show a' = a + (a' - a) from by omega, ← List.replicate_append_replicate, List.flatten_append, List.getElem?_append_left]
            · exact hv
            · rcases Nat.lt_or_ge i ((List.replicate a zv.cells.toList).flatten).length with h | h
              · exact h
              · rw [List.getElem?_eq_none h] at hv; cases hv
          simpa using this⟩ rfl ⟨rfl, rfl, rfl⟩
        refine ⟨.slice (some ⟨w.heap.size, 0, none⟩) a a', w.alloc (.cells arr e), _, ?_, h3, h4, ?_⟩
        · have t1 : ¬ ((a' : Int) < 0 ∨ (eb : Int) * (a' : Int) > 2 ^ 48) := by
            have : (eb : Int) * (a' : Int) ≤ 140737488355328 := by
              rw [Int.mul_comm, ← Int.natCast_mul]; omega
            have e : (2 : Int) ^ 48 = 281474976710656 := by decide
            rw [e]; omega
          unfold Instr.makeSlice
          simp only [Sem.run_bind, run_underlying hd, Result.andThen_ok, asInt, asIntOf, run_typeInfo (P := P) (w := w) hi', Sem.run_pure, Int.ofNat_eq_natCast, w1, w2, hb', Int.toNat_natCast]
          rw [if_neg (by simp only [Bool.or_eq_true, decide_eq_true_eq]; omega)]
          simp only [Sem.run_bind, run_askRoom, Result.andThen_ok, S, hc]
          by_cases h0 : a' * esz = 0
          · rw [if_pos h0]
            simp only [Sem.run_bind, Sem.run_pure, Result.andThen_ok, arr, if_pos h0]
            simp [newRow]
          · rw [if_neg h0]
            simp only [Sem.run_bind, Sem.run_pure, Result.andThen_ok, arr, if_neg h0, hz]
            simp [newRow]
        · refine .msl _ _ _ _ _ (.cells (repN z a) 0 false e) _ a' (.inr rfl) (by rw [PM.get_new, if_pos rfl]) (Nat.le_refl _) hle (by rw [← maxStr_eq]; exact hmax) fun _ => ⟨fun _ => by rw [move_β], arr, e, (0, 0), ?_, by rw [harr]; omega⟩
          rw [move_β]; exact alloc_heap_new
      · cases h
    · cases h
  · cases h
end
end Go.Ab
/- append and copy. -/
namespace Go.Ab
section
variable {P : Program} {c : Cx} {m : PM} {w : World}

def laid (base : Option Addr) (off : Nat) (news : List Value) (v : Value) : Sem Value := match base with
  | some a => do storeCells (a.add off) news; pure v
  | none => pure v

theorem append_in {t t' ty e : TypeId} {i : TypeInfo} {d' : TypeDesc} {base : Option Addr} {sLen sCap n : Nat} {x : Value} {news : List Value}
    (ht : P.underlying t = some (.slice e)) (ht' : P.underlying t' = some d') (hd : (∃ e', d' = .slice e') ∨ d' = .string) (hi : P.info? e = some i)
    (h1 : (Builtin.lenOf x).run P w = .ok n w) (h2 : (Builtin.firstCells i.size n x).run P w = .ok ⟨news⟩ w) (hle : sLen + n ≤ sCap) :
    (Builtin.append_ #[t, t'] ty #[.slice base sLen sCap, x]).run P w = (laid base (sLen * i.size) news (.slice base (sLen + n) sCap)).run P w := by
  have S := run_sizeOf (P := P) (w := w) hi
  have hc : P.cellsOf e = i.size := by simp [Program.cellsOf, hi]
  have U := run_underlying ht w
  have U' := run_underlying ht' w
  show (Builtin.append_ #[t, t'] ty #[.slice base sLen sCap, x]).run P w = _
  unfold Builtin.append_
  rcases hd with ⟨e', rfl⟩ | rfl
  · simp only [List.getElem?_toArray, List.getElem?_cons_zero, List.getElem?_cons_succ, Sem.run_bind, U, U', S, hc, Result.andThen_ok, Sem.run_pure, Bool.false_eq_true, if_false, h1, if_pos hle, Bool.not_false, if_true, h2]
    cases base <;> simp [laid]
  · simp only [List.getElem?_toArray, List.getElem?_cons_zero, List.getElem?_cons_succ, Sem.run_bind, U, U', S, hc, Result.andThen_ok, Sem.run_pure, Bool.false_eq_true, if_false, h1, if_pos hle, Bool.not_false, if_true, h2]
    cases base <;> simp [laid]

theorem append_grow {t t' ty e : TypeId} {i : TypeInfo} {zv : Value} {d' : TypeDesc} {base : Option Addr} {sLen sCap n : Nat} {x : Value} {olds news : List Value}
    (ht : P.underlying t = some (.slice e)) (ht' : P.underlying t' = some d') (hd : (∃ e', d' = .slice e') ∨ d' = .string) (hi : P.info? e = some i) (hz : i.zero = some zv)
    (h1 : (Builtin.lenOf x).run P w = .ok n w) (h2 : (Builtin.firstCells i.size n x).run P w.drew = .ok ⟨news⟩ w.drew) (h3 : (Builtin.firstCells i.size sLen (.slice base sLen sCap)).run P w.drew = .ok ⟨olds⟩ w.drew)
    (hgt : sCap < sLen + n) (hb : (sLen + n) * i.bytes ≤ roomB) (hpos : 0 < i.bytes) :
    ∃ cap, sLen + n ≤ cap ∧ cap ≤ maxLen ∧ (Builtin.append_ #[t, t'] ty #[.slice base sLen sCap, x]).run P w =
      .ok (.slice (some ⟨w.heap.size, 0, none⟩) (sLen + n) cap) (w.drew.alloc (.cells ((⟨olds⟩ : Array Value) ++ (⟨news⟩ : Array Value) ++ Builtin.zeroCells zv.cells (cap - (sLen + n))) e)) := by
  have S := run_sizeOf (P := P) (w := w) hi
  have hc : P.cellsOf e = i.size := by simp [Program.cellsOf, hi]
  have U := run_underlying ht w
  have U' := run_underlying ht' w
  have I := run_typeInfo (P := P) (w := w) hi
  have I2 := run_typeInfo (P := P) (w := w.drew) hi
  have Z : (zeroValue e).run P w.drew = .ok zv w.drew := by unfold zeroValue; rw [Sem.run_bind, I2, Result.andThen_ok, hz]; rfl
  have hlt : sLen + n < 2 ^ 63 := by
    unfold roomB at hb
    have := Nat.le_mul_of_pos_right (sLen + n) hpos
    have e1 : (2 : Nat) ^ 63 = 9223372036854775808 := by decide
    rw [e1]; omega
  refine ⟨(sLen + n) + (w.tape w.drawn (.appendCap (sLen + n) sCap e)) % (2 ^ 63 - (sLen + n)), by omega, ?_, ?_⟩
  · have := Nat.mod_lt (w.tape w.drawn (.appendCap (sLen + n) sCap e)) (show 0 < 2 ^ 63 - (sLen + n) by omega)
    unfold maxLen; omega
  have hn : ¬ (sLen + n ≤ sCap) := by omega
  have hfit : ¬ (Builtin.nextslicecap (sLen + n) sCap * i.bytes > 2 ^ 48) := by
    have := growslice_fits hgt (by unfold roomB at hb; exact hb)
    have e1 : (2 : Nat) ^ 48 = 281474976710656 := by decide
    rw [e1]; omega
  have hb0 : ¬ (i.bytes = 0) := by omega
  unfold Builtin.append_
  rcases hd with ⟨e', rfl⟩ | rfl
  · simp only [List.getElem?_toArray, List.getElem?_cons_zero, List.getElem?_cons_succ, Sem.run_bind, U, U', S, hc, Result.andThen_ok, Sem.run_pure, Bool.false_eq_true, if_false, h1, if_neg hn, Bool.not_false, if_true, h2, I, hb0, or_self, and_false, if_neg hfit, run_choose, Question.forced, run_askRoom, World.drew_eq, I2, h3, Z, newRow, run_newObj, Question.cut, World.alloc_eq]
    rfl
  · simp only [List.getElem?_toArray, List.getElem?_cons_zero, List.getElem?_cons_succ, Sem.run_bind, U, U', S, hc, Result.andThen_ok, Sem.run_pure, Bool.false_eq_true, if_false, h1, if_neg hn, Bool.not_false, if_true, h2, I, hb0, or_self, and_false, if_neg hfit, run_choose, Question.forced, run_askRoom, World.drew_eq, I2, h3, Z, newRow, run_newObj, Question.cut, World.alloc_eq]
    rfl

theorem drew_eq_heap : w.drew.heap = w.heap := rfl
theorem At.drew {B o : Nat} {vs : List Value} (h : At w B o vs) : At w.drew B o vs := fun i v hv => h i v hv

/-- what is appended -/
theorem appendix_sound {esz n : Nat} {x : PV} {v : Value} {cs : List PV} (hM : MemRel c m w) (hx : Rep c m w x v) (h : appendix m esz x = some (cs, n)) :
    ∃ news, Reps c m w cs news ∧ news.length = n * esz ∧ (Builtin.lenOf v).run P w = .ok n w ∧ (Builtin.firstCells esz n v).run P w = .ok ⟨news⟩ w ∧ (Builtin.firstCells esz n v).run P w.drew = .ok ⟨news⟩ w.drew := by
  unfold appendix at h
  split at h
  · cases h; cases hx
    exact ⟨[], .nil, by simp, rfl, rfl, rfl⟩
  · rename_i cs' n' cp
    obtain ⟨h1, h2⟩ := bif_some h
    cases h2
    have hl := beq_t h1
    cases hx with
    | vsl0 _ _ a k hc hle =>
      have h0 : n * esz = 0 := by simpa using hl.symm
      refine ⟨[], .nil, by simp [h0], rfl, ?_, ?_⟩ <;> simp [Builtin.firstCells, h0, loadCells, loadCellsFrom]
    | vsl _ vs B o _ _ k _ hS hat hr hc hle =>
      have hv : vs.length = n * esz := by rw [hr.length, hl]; rfl
      exact ⟨vs, hr, hv, rfl, load_at hat _ hv, load_at hat.drew _ hv⟩
  · rename_i b g off n' sz
    split at h
    · rename_i cs' g' frz et hb
      obtain ⟨h1, h2⟩ := bif_some h
      clear h
      obtain ⟨h3, h4⟩ := and_t h1
      cases beq_t h3; cases beq_t h4
      split at h2
      · rename_i l hl
        cases h2
        cases hx with
        | msl _ _ _ _ _ blk a k hL hb' hgg hle hk ha =>
        rw [hb] at hb'; cases hb'
        obtain ⟨vs, e1, e2, e3⟩ := blk_cells hM hL hb hl
        have hv : vs.length = n * esz := e3
        by_cases h0 : 0 < k
        · rw [(ha rfl).1 h0]
          exact ⟨vs, e1, hv, rfl, load_at e2 _ hv, load_at e2.drew _ hv⟩
        · have hn : n = 0 := by omega
          subst hn
          have : vs = [] := List.eq_nil_of_length_eq_zero (by omega)
          subst this
          refine ⟨[], e1, by simp, rfl, ?_, ?_⟩ <;> simp [Builtin.firstCells, loadCells, loadCellsFrom]
      · cases h2
    · cases h
  · rename_i l
    obtain ⟨h1, h2⟩ := bif_some h
    cases h2
    cases beq_t h1
    cases hx
    refine ⟨l.map fun b => Value.int .u8 b.toNat, ?_, by simp, rfl, ?_, ?_⟩
    · have : ∀ l : List UInt8, Reps c m w (bytesOf l) (l.map fun b => Value.int .u8 b.toNat) := by
        intro l
        induction l with
        | nil => exact .nil
        | cons b l ih => exact .cons _ _ _ _ (.int _ _) ih
      exact this l
    · simp only [Builtin.firstCells, extract_mk, Sem.run_pure]
      simp
    · simp only [Builtin.firstCells, extract_mk, Sem.run_pure]
      simp
  · cases h

/-- the block that append makes -/
theorem grown_size {olds news : List Value} {zc : Array Value} {a b cap sz : Nat} (ho : olds.length = a * sz) (hn : news.length = b * sz) (hz : zc.size = sz) (hc : a + b ≤ cap) :
    ((⟨olds⟩ : Array Value) ++ (⟨news⟩ : Array Value) ++ Builtin.zeroCells zc (cap - (a + b))).size = cap * sz := by
  simp only [Array.size_append, Builtin.zeroCells, Array.size_map, Array.size_range, hz]
  show olds.length + news.length + (cap - (a + b)) * sz = cap * sz
  rw [ho, hn, ← Nat.add_mul, ← Nat.add_mul]
  congr 1; omega
theorem grown_get {olds news : List Value} {zs : Array Value} {i : Nat} {v : Value} (h : (olds ++ news)[i]? = some v) : ((⟨olds⟩ : Array Value) ++ (⟨news⟩ : Array Value) ++ zs)[i]? = some v := by
  have hlt : i < (olds ++ news).length := by
    rcases Nat.lt_or_ge i (olds ++ news).length with h' | h'
    · exact h'
    · rw [List.getElem?_eq_none h'] at h; cases h
  rw [Array.getElem?_append_left (by simpa using hlt)]
  simpa using h

theorem mAppend2_sound {t t' ty e esz eb n : Nat} {i : TypeInfo} {zv : Value} {d' : TypeDesc} {s x q : PV} {sv xv : Value} {cs : List PV} {m' : PM} (hM : MemRel c m w)
    (ht : P.underlying t = some (.slice e)) (ht' : P.underlying t' = some d') (hd : (∃ e', d' = .slice e') ∨ d' = .string) (hi : P.info? e = some i) (hz : i.zero = some zv) (hzs : zv.cells.size = i.size)
    (hes : i.size = esz) (heb : i.bytes = eb) (hs : Rep c m w s sv) (hx : Rep c m w x xv) (ha : appendix m esz x = some (cs, n)) (hok : cellsOk cs = true) (h : mAppend2 m e esz eb s cs n = some (q, m')) :
    MOk P c m w (Builtin.append_ #[t, t'] ty #[sv, xv]) q m' := by
  subst hes; subst heb
  obtain ⟨news, hr, hlen, hn, hf, hf'⟩ := appendix_sound (P := P) hM hx ha
  have hones := cells_ones hr hok
  unfold mAppend2 at h
  obtain ⟨hb0, h9⟩ := bif_none h
  clear h
  have h := h9
  clear h9
  have hpos : 0 < i.bytes := Nat.pos_of_ne_zero (nbeq hb0)
  have hnil : n = 0 → news = [] := fun e => List.eq_nil_of_length_eq_zero (by rw [hlen, e]; simp)
  cases s
  case nils =>
    -- nil
    cases hs
    by_cases hn0 : n = 0
    · subst hn0
      cases h
      refine .same hM (v := .slice none 0 0) ?_ .nils
      rw [append_in ht ht' hd hi hn hf (by omega)]; rfl
    · rw [show Nat.beq n 0 = false from by cases hb : Nat.beq n 0 with | false => rfl | true => exact absurd (beq_t hb) hn0] at h
      obtain ⟨h1, h2⟩ := bif_some h
      cases h2
      have hroom : n * i.bytes ≤ roomB := Nat.le_of_ble_eq_true h1
      obtain ⟨cap, c1, c2, c3⟩ := append_grow (ty := ty) (base := none) (sLen := 0) (sCap := 0) (olds := []) ht ht' hd hi hz hn hf' rfl (by omega) (by simpa using hroom) hpos
      simp only [Nat.zero_add] at c1 c3
      obtain ⟨h3, h4⟩ := newCells_sound (et := e) (cs := cs) hM ⟨news, hr, fun j v hv => grown_get (olds := []) (zs := Builtin.zeroCells zv.cells (cap - n)) (by simpa using hv)⟩ (w' := w.drew.alloc (.cells ((⟨[]⟩ : Array Value) ++ (⟨news⟩ : Array Value) ++ Builtin.zeroCells zv.cells (cap - n)) e)) rfl ⟨rfl, rfl, rfl⟩
      refine ⟨_, _, _, c3, h3, h4, .msl _ _ _ _ _ (.cells cs 0 false e) _ cap (.inr rfl) (by rw [PM.get_new, if_pos rfl]) (Nat.le_refl _) c1 c2 fun _ => ⟨fun _ => by rw [move_β], _, e, (0, 0), by rw [move_β]; exact alloc_heap_new, ?_⟩⟩
      have := grown_size (olds := []) (news := news) (zc := zv.cells) (a := 0) (b := n) (cap := cap) (sz := i.size) (by simp) hlen hzs (by omega)
      simpa using this
  case vsl old k cp' =>
    -- a slice of known room
    cases cp' with
    | none => cases h
    | some cp =>
    by_cases hn0 : n = 0
    · subst hn0
      cases h
      have hv : ∃ a, sv = .slice (some a) k cp ∧ k ≤ cp := by
        cases hs with
        | vsl0 _ _ a kk hc hle => cases hc cp rfl; exact ⟨_, rfl, hle⟩
        | vsl _ vs B o _ _ kk _ hS hat hr' hc hle => cases hc cp rfl; exact ⟨_, rfl, hle⟩
      obtain ⟨a, rfl, hle⟩ := hv
      refine .same hM ?_ hs
      rw [append_in ht ht' hd hi hn hf (by omega), hnil rfl]; rfl
    · rw [show Nat.beq n 0 = false from by cases hb : Nat.beq n 0 with | false => rfl | true => exact absurd (beq_t hb) hn0] at h
      obtain ⟨h1, h2⟩ := bif_some h
      cases h2
      obtain ⟨g1, g2⟩ := and_t h1
      obtain ⟨g3, g4⟩ := and_t g2
      cases beq_t g1
      have hol : old.length = k * i.size := beq_t g3
      have hroom : (k + n) * i.bytes ≤ roomB := Nat.le_of_ble_eq_true g4
      have hv : ∃ a olds, sv = .slice (some a) k k ∧ Reps c m w old olds ∧ olds.length = k * i.size ∧ (Builtin.firstCells i.size k (.slice (some a) k k)).run P w.drew = .ok ⟨olds⟩ w.drew := by
        cases hs with
        | vsl0 _ _ a kk hc hle =>
          rw [← hc k rfl]
          have h0 : k * i.size = 0 := by simpa using hol.symm
          exact ⟨a, [], rfl, .nil, by simp [h0], by simp [Builtin.firstCells, h0, loadCells, loadCellsFrom]⟩
        | vsl _ vs B o _ _ kk _ hS hat hr' hc hle =>
          rw [← hc k rfl]
          have hl : vs.length = k * i.size := by rw [hr'.length, hol]
          exact ⟨_, vs, rfl, hr', hl, load_at hat.drew _ hl⟩
      obtain ⟨a, olds, rfl, hro, hlo, hfo⟩ := hv
      obtain ⟨cap, c1, c2, c3⟩ := append_grow (ty := ty) ht ht' hd hi hz hn hf' hfo (by omega) hroom hpos
      obtain ⟨h3, h4⟩ := newCells_sound (et := e) (cs := old ++ cs) hM ⟨olds ++ news, hro.append hr, fun j v hv => grown_get (zs := Builtin.zeroCells zv.cells (cap - (k + n))) hv⟩ (w' := w.drew.alloc (.cells ((⟨olds⟩ : Array Value) ++ (⟨news⟩ : Array Value) ++ Builtin.zeroCells zv.cells (cap - (k + n))) e)) rfl ⟨rfl, rfl, rfl⟩
      refine ⟨_, _, _, c3, h3, h4, .msl _ _ _ _ _ (.cells (old ++ cs) 0 false e) _ cap (.inr rfl) (by rw [PM.get_new, if_pos rfl]) (Nat.le_refl _) c1 c2 fun _ => ⟨fun _ => by rw [move_β], _, e, (0, 0), by rw [move_β]; exact alloc_heap_new, ?_⟩⟩
      have := grown_size (olds := olds) (news := news) (zc := zv.cells) (a := k) (b := n) (cap := cap) (sz := i.size) hlo hlen hzs c1
      simpa using this
  case msl b g off k sz =>
    -- a slice of ours
    simp only at h
    split at h
    · rename_i old g' et hb
      obtain ⟨h1, h2⟩ := bif_some h
      clear h
      obtain ⟨g1, g2⟩ := and_t h1
      obtain ⟨g3, g4⟩ := and_t g2
      obtain ⟨g5, g6⟩ := and_t g4
      obtain ⟨g1a, g1b⟩ := and_t g1
      cases beq_t g1a; cases beq_t g1b; cases beq_t g3; cases beq_t g5
      have hroom : (k + n) * i.bytes ≤ roomB := Nat.le_of_ble_eq_true g6
      split at h2
      · rename_i l hl
        cases h2
        cases hs with
        | msl _ _ _ _ _ blk a cap hL hb' hgg hle hcap ha' =>
        rw [hb] at hb'; cases hb'
        obtain ⟨ha1, arr0, et0, fz0, hh0, hsz0⟩ := ha' rfl
        obtain ⟨arr, fz, vs, k1, k2, k3, k4, k5⟩ := hM.blk b _ hL hb
        cases k4 rfl
        have hh1 := Option.some.inj (k1.symm.trans hh0)
        injection hh1 with q1 q2 q3
        subst q1; clear q2 q3 hh0
        simp only [Nat.zero_add] at hsz0
        obtain ⟨hle2, rfl⟩ := cutN_some hl
        have hle2 : k * i.size ≤ old.length := by have e : 0 + Nat.mul k i.size = k * i.size := Nat.zero_add _
                                                  rw [e] at hle2; exact hle2
        have hvl : vs.length = old.length := k2.length
        have hvle : vs.length ≤ arr.size := by
          rcases Nat.eq_zero_or_pos vs.length with h0 | h0
          · omega
          · have := k3 (vs.length - 1) vs[vs.length - 1] (by simp)
            have := (Array.getElem?_eq_some_iff.1 this).1
            omega
        have holds : Reps c m w ((old.drop 0).take (Nat.mul k i.size)) (vs.take (k * i.size)) := by simpa using k2.take (k * i.size)
        have hol : (vs.take (k * i.size)).length = k * i.size := by simp; omega
        have hle' : (Blk.cells old g false e).le (Blk.cells ((old.drop 0).take (Nat.mul k i.size) ++ cs) (Nat.succ g) false e) := ⟨Nat.le_succ _, rfl⟩
        by_cases hin : k + n ≤ cap
        · -- in place
          have hrun := append_in (ty := ty) (base := some a) ht ht' hd hi hn hf hin
          have hst : ∃ w', (laid (some a) (k * i.size) news (.slice (some a) (k + n) cap)).run P w = .ok (.slice (some a) (k + n) cap) w' ∧ w'.heap.size = w.heap.size ∧ (∀ B, B ≠ c.β b → w'.heap[B]? = w.heap[B]?) ∧ (w'.os = w.os ∧ w'.output = w.output ∧ w'.tape = w.tape) ∧
              ∃ arr' : Array Value, w'.heap[c.β b]? = some (.cells arr' e (0, 0)) ∧ arr'.size = arr.size ∧ ∀ (j : Nat) (v : Value), (vs.take (k * i.size) ++ news)[j]? = some v → arr'[j]? = some v := by
            by_cases hn0 : n = 0
            · rw [hnil hn0]
              refine ⟨w, rfl, rfl, fun _ _ => rfl, ⟨rfl, rfl, rfl⟩, arr, k1, rfl, ?_⟩
              intro j v hv
              rw [List.append_nil, List.getElem?_take] at hv
              split at hv
              · exact k3 j v hv
              · cases hv
            · have hfit : k * i.size + news.length ≤ arr.size := by
                rw [hlen, ← Nat.add_mul, hsz0]
                exact Nat.mul_le_mul_right _ hin
              have hrs := run_storeCells_at (P := P) (c.β b) (k * i.size) e news 0 arr w k1 (by omega) hones
              obtain ⟨e1, e2, e3, e4⟩ := setRow_eq (arr' := (arr.toList.take (k * i.size + 0) ++ news ++ arr.toList.drop (k * i.size + 0 + news.length)).toArray) k1
              refine ⟨_, ?_, e1, e3, e4, _, e2, by simp; omega, ?_⟩
              · unfold laid
                simp only [Sem.run_bind, ha1 (by omega), addr_add, Nat.zero_add, hrs, Result.andThen_ok, Sem.run_pure]
              · intro j v hv
                rw [List.getElem?_toArray]
                simp only [Nat.add_zero]
                by_cases hj : j < k * i.size
                · rw [List.getElem?_append_left (by omega), List.getElem?_take, if_pos hj] at hv
                  rw [List.append_assoc, List.getElem?_append_left (by simp; omega), List.getElem?_take, if_pos hj]
                  have := k3 j v hv
                  simpa using this
                · rw [List.getElem?_append_right (by omega), hol] at hv
                  have e' : (arr.toList.take (k * i.size)).length = k * i.size := by simp; omega
                  rw [List.append_assoc, List.getElem?_append_right (by omega), e']
                  have hlt : j - k * i.size < news.length := by
                    rcases Nat.lt_or_ge (j - k * i.size) news.length with h | h
                    · exact h
                    · rw [List.getElem?_eq_none h] at hv; cases hv
                  rw [List.getElem?_append_left hlt]; exact hv
          obtain ⟨w', s1, s2, s3, s4, arr', s5, s6, s7⟩ := hst
          obtain ⟨hE, hM'⟩ := ext_upd (blk' := .cells ((old.drop 0).take (Nat.mul k i.size) ++ cs) (Nat.succ g) false e) hM hL hb rfl rfl hle' s2 s3 (fun arr2 et2 fz2 h2 => by rw [k1] at h2; cases h2; exact ⟨arr', (0, 0), s5, s6⟩) s4
            (fun hC => ⟨arr', (0, 0), vs.take (k * i.size) ++ news, s5, (holds.append hr).carry hC, s7, fun _ => rfl, fun e => by cases e⟩)
          refine ⟨.slice (some a) (k + n) cap, w', c, by rw [hrun, s1], hE, hM', .msl _ _ _ _ _ (.cells _ (Nat.succ g) false e) a cap hL (by rw [PM.get_upd, if_pos rfl]) (Nat.le_refl _) hin hcap fun _ => ⟨fun h => ha1 h, arr', e, (0, 0), s5, by omega⟩⟩
        · -- a new row
          have hfo : (Builtin.firstCells i.size k (.slice (some a) k cap)).run P w.drew = .ok ⟨vs.take (k * i.size)⟩ w.drew := by
            by_cases h0 : 0 < cap
            · rw [ha1 h0]
              have hat : At w (c.β b) 0 (vs.take (k * i.size)) := by
                have hat0 : At w (c.β b) 0 vs := fun j v hv => by
                  have := k3 j v hv
                  simp [World.cell?, k1, this]
                exact hat0.take _
              exact load_at hat.drew _ hol
            · have hk0 : k = 0 := by omega
              subst hk0
              simp [Builtin.firstCells, loadCells, loadCellsFrom]
          obtain ⟨cap', c1, c2, c3⟩ := append_grow (ty := ty) ht ht' hd hi hz hn hf' hfo (by omega) hroom hpos
          obtain ⟨hE, hM'⟩ := ext_move (b := b) (m' := m.upd b (.cells ((old.drop 0).take (Nat.mul k i.size) ++ cs) (Nat.succ g) false e)) (w' := w.drew.alloc (.cells ((⟨vs.take (k * i.size)⟩ : Array Value) ++ (⟨news⟩ : Array Value) ++ Builtin.zeroCells zv.cells (cap' - (k + n))) e)) hM
            (.inl ⟨hL, _, hb, rfl, hle', Nat.lt_succ_self g, rfl⟩) rfl rfl ⟨rfl, rfl, rfl⟩ (fun hC => ⟨_, (0, 0), vs.take (k * i.size) ++ news, by rw [move_β]; exact alloc_heap_new, (holds.append hr).carry hC, fun j v hv => grown_get hv, fun _ => rfl, fun e => by cases e⟩)
          refine ⟨_, _, _, c3, hE, hM', .msl _ _ _ _ _ (.cells _ (Nat.succ g) false e) _ cap' (.inr rfl) (by rw [PM.get_upd, if_pos rfl]) (Nat.le_refl _) c1 c2 fun _ => ⟨fun _ => by rw [move_β], _, e, (0, 0), by rw [move_β]; exact alloc_heap_new, ?_⟩⟩
          have := grown_size (olds := vs.take (k * i.size)) (news := news) (zc := zv.cells) (a := k) (b := n) (cap := cap') (sz := i.size) hol hlen hzs c1
          simpa using this
      · cases h2
    · cases h
  all_goals cases h
end
end Go.Ab
/- The operations on the memory, part 3: append of zeros, copy, texts, pointers, maps, ranging over a text. -/
namespace Go.Ab
section
variable {P : Program} {c : Cx} {m : PM} {w : World}

theorem mAppendZ_sound {t t' ty : Nat} {k : Option TI} {kk : IntKind} {s x q : PV} {sv xv : Value} {m' : PM} (hM : MemRel c m w) (hk : ∀ i, k = some i → TyOk P t i) (ht' : P.underlying t' = some (.int kk))
    (hs : Rep c m w s sv) (hx : Rep c m w x xv) (h : mAppendZ k m s x = some (q, m')) : MOk P c m w (Builtin.append_ #[t, t'] ty #[sv, xv]) q m' := by
  unfold mAppendZ at h
  split at h
  · rename_i e esz eb z sz zz
    obtain ⟨d, hd, hagg, hko⟩ := (hk _ rfl).kd
    obtain ⟨rfl, ⟨i, d', hi, hd', hs', hb', _⟩, hzo⟩ := hko
    obtain ⟨zv, info2, hinf, hz, hzr, hz1, hz2⟩ := zeroOk_run (c := c) (m := m) (w := w) hzo rfl
    obtain ⟨zv2, info3, hinf3, hzd, _⟩ := zeroOk_run (c := c) (m := m) (w := w.drew) hzo rfl
    rw [hi] at hinf; cases hinf
    obtain ⟨hsz, h9⟩ := bif_none h
    clear h
    have h := h9
    clear h9
    have hesz : esz ≠ 0 := nbeq hsz
    cases x <;> try (cases h; done)
    rename_i kn n
    cases kn <;> try (cases h; done)
    cases n <;> try (cases h; done)
    rename_i n
    cases s <;> try (cases h; done)
    simp only at h
    obtain ⟨h1, h2⟩ := bif_none h
    clear h
    obtain ⟨h3, h4⟩ := bif_some h2
    cases h4
    have hn0 : n ≠ 0 ∧ eb ≠ 0 := by
      simp only [Bool.or_eq_false_iff] at h1
      exact ⟨nbeq h1.1, nbeq h1.2⟩
    have hroom : n * eb ≤ roomB := Nat.le_of_ble_eq_true h3
    cases hs; cases hx
    have hpos : 0 < eb := Nat.pos_of_ne_zero hn0.2
    have hnle : n ≤ roomB := Nat.le_trans (Nat.le_mul_of_pos_right n hpos) hroom
    have hlt : n < 2 ^ 63 := by
      have e1 : (2 : Nat) ^ 63 = 9223372036854775808 := by decide
      unfold roomB at hnle; rw [e1]; omega
    have S := run_sizeOf (P := P) (w := w) hi
    have hc : P.cellsOf e = esz := by simp [Program.cellsOf, hi, hs']
    have U := run_underlying hd w
    have U' := run_underlying ht' w
    have I := run_typeInfo (P := P) (w := w) hi
    have I2 := run_typeInfo (P := P) (w := w.drew) hi
    have w1 : IntKind.i64.wrap (n : Int) = n := wrap64_small (by unfold maxStr; unfold roomB at hnle; omega)
    have hfit : ¬ (Builtin.nextslicecap (0 + n) 0 * i.bytes > 2 ^ 48) := by
      have := growslice_fits (need := 0 + n) (old := 0) (bytes := i.bytes) (by omega) (by rw [hb']; unfold roomB at hroom; simpa using hroom)
      have e1 : (2 : Nat) ^ 48 = 281474976710656 := by decide
      rw [e1]; omega
    have hb0 : ¬ (i.bytes = 0) := by omega
    let cap := (0 + n) + (w.tape w.drawn (.appendCap (0 + n) 0 e)) % (2 ^ 63 - (0 + n))
    have hcap : n ≤ cap ∧ cap ≤ maxLen := by
      have := Nat.mod_lt (w.tape w.drawn (.appendCap (0 + n) 0 e)) (show 0 < 2 ^ 63 - (0 + n) by omega)
      exact ⟨by simp only [cap]; omega, by simp only [cap]; unfold maxLen; omega⟩
    let arr : Array Value := #[] ++ Builtin.zeroCells zv.cells n ++ Builtin.zeroCells zv.cells (cap - (0 + n))
    have hzs : zv.cells.size = esz := by rw [hz2, hs']
    have hzl : (Builtin.zeroCells zv.cells n).toList = (List.replicate n zv.cells.toList).flatten := repN_get rfl n
    obtain ⟨h3, h4⟩ := newCells_sound (et := e) (cs := repN z n) (arr := arr) hM ⟨_, repN_sound hzr n, fun j v hv => by
      rw [← hzl] at hv
      have hlt : j < (Builtin.zeroCells zv.cells n).size := by
        rcases Nat.lt_or_ge j (Builtin.zeroCells zv.cells n).toList.length with h | h
        · simpa using h
        · rw [List.getElem?_eq_none h] at hv; cases hv
      simp only [arr, Array.empty_append]
      rw [Array.getElem?_append_left hlt]
      simpa using hv⟩ (w' := w.drew.alloc (.cells arr e)) rfl ⟨rfl, rfl, rfl⟩
    refine ⟨.slice (some ⟨w.heap.size, 0, none⟩) n cap, _, _, ?_, h3, h4, .msl _ _ _ _ _ (.cells (repN z n) 0 false e) _ cap (.inr rfl) (by rw [PM.get_new, if_pos rfl]) (Nat.le_refl _) hcap.1 hcap.2 fun _ => ⟨fun _ => by rw [move_β], arr, e, (0, 0), by rw [move_β]; exact alloc_heap_new, ?_⟩⟩
    · unfold Builtin.append_
      have hneg : ¬ ((n : Int) < 0) := by omega
      have hbig : ¬ ((n : Int) * (i.bytes : Int) > 2 ^ 48) := by
        have e1 : (2 : Int) ^ 48 = 281474976710656 := by decide
        rw [e1, ← Int.natCast_mul, hb']; unfold roomB at hroom; omega
      have hmax : ¬ (((0 + n : Nat) : Int) > IntKind.i64.max) := by
        have e1 : (2 : Int) ^ 63 = 9223372036854775808 := by decide
        simp only [IntKind.max, IntKind.signed, IntKind.bits, if_true, Nat.add_one_sub_one, e1]; unfold roomB at hnle; omega
      have hn' : ¬ (0 + n ≤ 0) := by omega
      have hns : ¬ (n * esz = 0) := by
        have := Nat.mul_pos (Nat.pos_of_ne_zero hn0.1) (Nat.pos_of_ne_zero hesz); omega
      have hzd2 : (zeroValue e).run P w.drew = .ok zv w.drew := by
        obtain ⟨_, v, q1, q2, _⟩ := hzo _ rfl
        unfold zeroValue at hz ⊢
        rw [Sem.run_bind, run_typeInfo (P := P) (w := w) q1, Result.andThen_ok, q2] at hz
        rw [Sem.run_bind, run_typeInfo (P := P) (w := w.drew) q1, Result.andThen_ok, q2]
        cases hz; rfl
      simp only [List.getElem?_toArray, List.getElem?_cons_zero, List.getElem?_cons_succ, Sem.run_bind, U, U', S, hc, Result.andThen_ok, Sem.run_pure, if_true, asInt, asIntOf, Int.ofNat_eq_natCast, w1, if_neg hneg, I, if_neg hbig, Int.toNat_natCast, if_neg hn', hmax, false_and, if_false, if_neg hfit, run_choose, Question.forced, Bool.false_eq_true, run_askRoom, World.drew_eq, I2, Builtin.firstCells, Bool.not_true, if_neg hns, hzd2, newRow, run_newObj, Question.cut, World.alloc_eq]
      have e1 : 0 + n = n := Nat.zero_add n
      simp only [arr, cap, e1]
      rfl
    · have := grown_size (olds := []) (news := (Builtin.zeroCells zv.cells n).toList) (zc := zv.cells) (a := 0) (b := n) (cap := cap) (sz := esz) (by simp) (by simp [Builtin.zeroCells, hzs]) hzs (by omega)
      simpa [arr] using this
  · cases h
end
end Go.Ab
/- copy, texts seen in memory, conversions. -/
namespace Go.Ab
section
variable {P : Program} {c : Cx} {m : PM} {w : World}

theorem mCopy_sound {t ty : Nat} {k : Option TI} {d x q : PV} {dv xv : Value} {ts : Array TypeId} {m' : PM} (hM : MemRel c m w) (hk : ∀ i, k = some i → TyOk P t i) (hts : ts[0]? = some t)
    (hd : Rep c m w d dv) (hx : Rep c m w x xv) (h : mCopy k m d x = some (q, m')) : MOk P c m w (Builtin.copy_ ts ty #[dv, xv]) q m' := by
  unfold mCopy at h
  split at h
  · rename_i e esz eb ez sz zz
    obtain ⟨dd, hdd, hagg, hko⟩ := (hk _ rfl).kd
    obtain ⟨rfl, ⟨info, d', hi', hd', hs', hb', _⟩, hzo⟩ := hko
    have S := run_sizeOf (P := P) (w := w) hi'
    have hc : P.cellsOf e = esz := by simp [Program.cellsOf, hi', hs']
    split at h
    · rename_i b g off n sz'
      split at h
      · rename_i cs g' et hb
        obtain ⟨h1, h2⟩ := bif_some h
        clear h
        obtain ⟨h3, h4⟩ := and_t h1
        obtain ⟨h5, h6⟩ := and_t h4
        cases beq_t h3; cases beq_t h5
        split at h2
        · rename_i src k hap
          have main : ∀ (news : List Value) (src : List PV) (k : Nat) (cs' : List PV), Reps c m w src news → news.length = k * esz → (Builtin.firstCells esz k xv).run P w = .ok ⟨news⟩ w → cellsOk src = true → k ≤ n → putN cs off src = some cs' → (∃ j, (Builtin.lenOf xv).run P w = .ok j w ∧ Nat.min j n = k) →
              MOk P c m w (Builtin.copy_ ts ty #[dv, xv]) (.int .i64 (Int.ofNat k)) (m.upd b (.cells cs' g false et)) := by
            intro news src k cs' n1 n2 n4 h10 hkn hput ⟨j, n3, hj⟩
            cases hd with
            | msl _ _ _ _ _ blk a kk hL hb' hgg hle hk0 ha =>
            rw [hb] at hb'; cases hb'
            obtain ⟨w', e1, e2, e3⟩ := store_sound (P := P) hM hL hb n1 (cells_ones n1 h10) hput
            have hst : (storeCells a news).run P w = .ok () w' := by
              by_cases h0 : 0 < kk
              · rw [(ha rfl).1 h0]; exact e1
              · have : k = 0 := by omega
                subst this
                have : news = [] := List.eq_nil_of_length_eq_zero (by omega)
                subst this
                exact e1
            refine ⟨_, w', c, ?_, e2, e3, .int _ _⟩
            unfold Builtin.copy_
            simp only [hts, List.getElem?_toArray, List.getElem?_cons_zero, List.getElem?_cons_succ, Sem.run_bind, run_underlying hdd, Result.andThen_ok, n3, S, hc, hj, n4, hst, Sem.run_pure]
            rfl
          cases hc1 : (Nat.ble k n && cellsOk src) with
          | true =>
            rw [hc1] at h2
            simp only [cond_true] at h2
            obtain ⟨h9, h10⟩ := and_t hc1
            have hkn : k ≤ n := Nat.le_of_ble_eq_true h9
            split at h2
            · rename_i cs' hput
              cases h2
              obtain ⟨news, n1, n2, n3, n4, n5⟩ := appendix_sound (P := P) hM hx hap
              exact main news src k cs' n1 n2 n4 h10 hkn hput ⟨k, n3, Nat.min_eq_left hkn⟩
            · cases h2
          | false =>
            rw [hc1] at h2
            simp only [cond_false] at h2
            split at h2
            · rename_i b2 g2 off2 k2 sz2
              obtain ⟨h7, h8⟩ := bif_some h2
              clear h2
              have hk2 : n ≤ k2 := Nat.le_of_ble_eq_true h7
              split at h8
              · rename_i src' k3 hap'
                obtain ⟨h9, h10⟩ := bif_some h8
                clear h8
                obtain ⟨h11, h12⟩ := and_t h9
                obtain ⟨h13, h14⟩ := and_t h12
                cases beq_t h11; cases beq_t h13
                split at h10
                · rename_i cs' hput
                  cases h10
                  obtain ⟨_, _, _, n3, _, _⟩ := appendix_sound (P := P) hM hx hap
                  cases hx with
                  | msl _ _ _ _ _ blk a kk hL hb' hgg hle hk0 ha =>
                  have hx' : Rep c m w (.msl b2 g2 off2 n sz2) (.slice (some a) n kk) := .msl b2 g2 off2 n sz2 blk a kk hL hb' hgg (Nat.le_trans hk2 hle) hk0 ha
                  obtain ⟨news, n1, n2, _, n4, _⟩ := appendix_sound (P := P) hM hx' hap'
                  exact main news src' n cs' n1 n2 n4 h14 (Nat.le_refl _) hput ⟨_, n3, Nat.min_eq_right hk2⟩
                · cases h10
              · cases h8
            · cases h2
        · cases h2
      · cases h
    · cases h
  · cases h

theorem mUnsafeString_sound {t it ty : Nat} {k : Option TI} {n : Nat} {p q : PV} {pv : Value} {m' : PM} (hM : MemRel c m w) (hk : ∀ i, k = some i → TyOk P t i)
    (hp : Rep c m w p pv) (h : mUnsafeString k m p n = some (q, m')) : MOk P c m w (Builtin.unsafeString_ #[t, it] ty #[pv, .int .i64 n]) q m' := by
  have h0 : ∀ a, (Builtin.unsafeString_ #[t, it] ty #[.pointer a, .int .i64 0]).run P w = .ok (.string ⟨⟨[]⟩⟩) w := fun a => Lib.run_unsafeString_none (P := P) w t it ty a
  unfold mUnsafeString at h
  split at h
  · obtain ⟨h1, h2⟩ := bif_some h
    cases h2; cases beq_t h1; cases hp
    exact .same hM (h0 _) (.str _)
  · rename_i b g off
    cases hn : Nat.beq n 0 with
    | true =>
      rw [hn] at h
      cases h; cases beq_t hn; cases hp
      exact .same hM (h0 _) (.str _)
    | false =>
      rw [hn] at h
      simp only [cond_false] at h
      split at h
      · rename_i e esz sz zz
        obtain ⟨dd, hdd, hagg, hko⟩ := (hk _ rfl).kd
        obtain ⟨info, rfl, hi', hs'⟩ := hko
        split at h
        · rename_i cs g' et hb
          obtain ⟨h1, h2⟩ := bif_some h
          clear h
          obtain ⟨h3, h4⟩ := and_t h1
          obtain ⟨h5, h6⟩ := and_t h4
          obtain ⟨h7, h8⟩ := and_t h6
          obtain ⟨h9, h10⟩ := and_t h8
          cases beq_t h3; cases beq_t h5; cases beq_t h7; cases beq_t h9
          have hmax : n ≤ maxStr := Nat.le_of_ble_eq_true h10
          have hc : P.cellsOf e = 1 := by simp [Program.cellsOf, hi', hs']
          split at h2
          · rename_i l hl
            split at h2
            · rename_i s hs
              cases h2
              cases hp with
              | ptr _ _ _ blk a hL hb' hgg ha =>
              rw [hb] at hb'; cases hb'
              rw [ha rfl]
              obtain ⟨vs, e1, e2, e3⟩ := blk_cells hM hL hb hl
              obtain ⟨f1, f2⟩ := toBytes_some hs e1
              obtain ⟨arr, fz, vs0, k1, k2, k3, k4, k5⟩ := hM.blk b _ hL hb
              have hfz := k4 rfl
              subst hfz
              have hsl : s.length = n := by rw [← e3, f1]; simp
              obtain ⟨hle, _⟩ := cutN_some hl
              have hcs : n ≤ arr.size := by
                have hl0 := k2.length
                have hn0 : n ≠ 0 := nbeq hn
                have := k3 (n - 1) vs0[n - 1] (by simp)
                have := (Array.getElem?_eq_some_iff.1 this).1
                omega
              have hrun := Lib.run_unsafeString_row (P := P) w t it ty e hdd hc (c.β b) arr.size (by simp [World.shape?, k1]) s (by intro h0; subst h0; exact nbeq hn hsl.symm) (by omega) (by unfold maxStr at hmax; omega) (fun j x hx => by
                have := e2 j (.int .u8 x.toNat) (by rw [f1]; simp [hx])
                rw [addr_add]; exact this)
              rw [hsl] at hrun
              have hw : (w.freeze ⟨c.β b, 0, none⟩ n).heap.size = w.heap.size ∧ (w.freeze ⟨c.β b, 0, none⟩ n).heap[c.β b]? = some (.cells arr e (0, n)) ∧ (∀ B, B ≠ c.β b → (w.freeze ⟨c.β b, 0, none⟩ n).heap[B]? = w.heap[B]?) ∧
                  (w.freeze ⟨c.β b, 0, none⟩ n).os = w.os ∧ (w.freeze ⟨c.β b, 0, none⟩ n).output = w.output ∧ (w.freeze ⟨c.β b, 0, none⟩ n).tape = w.tape := by
                unfold World.freeze
                rw [if_neg (nbeq hn)]
                refine ⟨by simp, ?_, ?_, rfl, rfl, rfl⟩
                · simp only [Array.getElem?_modify, if_pos rfl, k1]; simp
                · intro B hB
                  simp only [Array.getElem?_modify]
                  rw [if_neg (fun e => hB e.symm)]
              obtain ⟨w1, w2, w3, w4⟩ := hw
              obtain ⟨hE, hM'⟩ := ext_frz (blk' := .cells cs g true e) hM hL hb rfl rfl ⟨Nat.le_refl _, rfl⟩ w1 w3 (fun a2 et2 fz2 h2 => by rw [k1] at h2; cases h2; exact ⟨arr, (0, n), w2, rfl⟩) w4
                (fun hC => ⟨arr, (0, n), vs0, w2, k2.carry hC, k3, fun e => (by cases e), fun _ => .inr rfl⟩)
              exact ⟨_, _, _, hrun, hE, hM', .str _⟩
            · cases h2
          · cases h2
        · cases h
      · cases h
  · cases h

theorem cells_lt {b : Nat} {cs : List PV} {g et : Nat} {frz : Bool} (hM : MemRel c m w) (hL : c.L b) (hb : m.get b = some (.cells cs g frz et)) : ∃ arr fz, w.heap[c.β b]? = some (.cells arr et fz) ∧ cs.length ≤ arr.size := by
  obtain ⟨arr, fz, vs0, k1, k2, k3, k4, k5⟩ := hM.blk b _ hL hb
  refine ⟨arr, fz, k1, ?_⟩
  have hl := k2.length
  rcases Nat.eq_zero_or_pos cs.length with h0 | h0
  · omega
  · have := k3 (cs.length - 1) vs0[cs.length - 1] (by simp)
    have := (Array.getElem?_eq_some_iff.1 this).1
    omega

/-- a pointer to a whole variable -/
theorem mSeen_sound {e esz : Nat} {x q : PV} {v : Value} {m' : PM} (hM : MemRel c m w) (hx : Rep c m w x v) (hi : ∃ info, P.info? e = some info ∧ info.size = esz) (h : mSeen m e esz (some x) = some (q, m')) :
    q = x ∧ m' = m ∧ ∃ B arr fz, v = .pointer (some ⟨B, 0, none⟩) ∧ w.heap[B]? = some (.cells arr e fz) ∧ P.cellsOf e ≤ arr.size ∧ P.cellsOf e ≠ 0 := by
  unfold mSeen at h
  split at h
  · rename_i b g e'
    cases e'
    split at h
    · rename_i cs g' frz et hb
      obtain ⟨h1, h2⟩ := bif_some h
      cases h2
      obtain ⟨h3, h4⟩ := and_t h1
      obtain ⟨h5, h6⟩ := and_t h4
      obtain ⟨h7, h8⟩ := and_t h6
      cases beq_t h3; cases beq_t h5
      obtain ⟨info, i1, i2⟩ := hi
      have hc : P.cellsOf e = esz := by simp [Program.cellsOf, i1, i2]
      cases hx with
      | ptr _ _ _ blk a hL hb' hgg ha =>
      rw [hb] at hb'; cases hb'
      obtain ⟨arr, fz, g1, g2⟩ := cells_lt hM hL hb
      refine ⟨rfl, rfl, c.β b, arr, fz, by rw [ha rfl], g1, ?_, ?_⟩
      · rw [hc, ← beq_t h7]; exact g2
      · rw [hc]; exact nbeq (not_t h8)
    · cases h
  · cases h

theorem liesAt_whole {e : TypeId} (hc : P.cellsOf e ≠ 0) {count : Nat} (hn : 1 ≤ count) : liesAt P P.depth e count 0 e 1 = true := by
  have hd : P.depth = (2 * (P.types.size + Made.depth) + 1) + 1 := rfl
  rw [hd]
  simp only [liesAt, Bool.or_eq_true]
  left
  rw [hd]
  simp [rowAt, hc, hn, sameLayout]

theorem mConv_sound {S D : Nat} {ks kd : Option TI} {x q : PV} {a : Value} {m' : PM} (hM : MemRel c m w) (hs : ∀ i, ks = some i → TyOk P S i) (hd : ∀ i, kd = some i → TyOk P D i) (hx : Rep c m w x a) (h : mConv ks kd m (some x) = some (q, m')) :
    MOk P c m w (convert S D a) q m' := by
  unfold mConv at h
  split at h
  · rename_i e esz eb ez sz zz
    obtain ⟨ds, hs', _, hkos⟩ := (hs _ rfl).kd
    obtain ⟨rfl, ⟨info, d', hi', hde, _, _, hu8⟩, _⟩ := hkos
    split at h
    · obtain ⟨d, hd', _, hko⟩ := (hd _ rfl).kd
      cases hko
      split at h
      · rename_i b g off n sz' e'
        cases e'
        split at h
        · rename_i cs g' frz et hb
          obtain ⟨h1, h2⟩ := bif_some h
          clear h
          obtain ⟨h3, h4⟩ := and_t h1
          obtain ⟨h5, h6⟩ := and_t h4
          cases beq_t h5; cases beq_t h6
          cases hu8 h3
          split at h2
          · rename_i l hl
            split at h2
            · rename_i r hr
              cases h2
              cases hx with
              | msl _ _ _ _ _ blk a kk hL hb' hgg hle hk0 ha =>
              rw [hb] at hb'; cases hb'
              obtain ⟨vs, e1, e2, e3⟩ := blk_cells hM hL hb hl
              have hlen : r.length = n := by
                obtain ⟨f1, f2⟩ := toBytes_some hr e1
                rw [← e3, f1]; simp
              refine .same hM ?_ (.str _)
              by_cases h0 : 0 < kk
              · rw [(ha rfl).1 h0]
                have := bytesTo_sound (P := P) (k := kk) e2 e1 hr hlen
                simp [convert, run_underlying hd', run_underlying hs', run_underlying hde, this]
              · have : n = 0 := by omega
                subst this
                have : r = [] := List.eq_nil_of_length_eq_zero hlen
                subst this
                simp [convert, run_underlying hd', run_underlying hs', run_underlying hde, Conv.bytesToString, loadCells, loadCellsFrom]
                rfl
            · cases h2
          · cases h2
        · cases h
      · cases h
    · cases h
  · rename_i e esz sz zz
    obtain ⟨ds, hs', _, hkos⟩ := (hs _ rfl).kd
    obtain ⟨info, rfl, hi', hsz⟩ := hkos
    split at h
    · obtain ⟨d, hd', _, hko⟩ := (hd _ rfl).kd
      cases hko
      obtain ⟨rfl, rfl, B, arr, fz, rfl, g1, g2, g3⟩ := mSeen_sound (P := P) hM hx ⟨info, hi', hsz⟩ h
      refine .same hM ?_ hx
      have hc := run_sizeOf (P := P) (w := w) hi'
      have hcc : P.cellsOf e = info.size := by simp [Program.cellsOf, hi']
      have hne : info.size ≠ 0 := by omega
      have hle : arr ≠ #[] := fun e => by subst e; simp at g2; omega
      simp [convert, run_underlying hd', run_underlying hs', Conv.unsafePointer, Conv.seenAt, viewAt, cellsIn, World.shape?, g1, hc, hcc, hne, hle]
    · cases h
  · split at h
    · rename_i e esz sz2 zz2
      obtain ⟨ds, hs', _, hkos⟩ := (hs _ rfl).kd
      cases hkos
      obtain ⟨d, hd', _, hko⟩ := (hd _ rfl).kd
      obtain ⟨info, rfl, hi', hsz⟩ := hko
      obtain ⟨rfl, rfl, B, arr, fz, rfl, g1, g2, g3⟩ := mSeen_sound (P := P) hM hx ⟨info, hi', hsz⟩ h
      refine .same hM ?_ hx
      have hc := run_sizeOf (P := P) (w := w) hi'
      have hcc : P.cellsOf e = info.size := by simp [Program.cellsOf, hi']
      have hne : info.size ≠ 0 := by omega
      have hli : liesAt P P.depth e (arr.size / info.size) 0 e 1 = true := liesAt_whole g3 (by
        have : info.size ≤ arr.size := by omega
        exact (Nat.one_le_div_iff (by omega)).2 this)
      simp [convert, run_underlying hd', run_underlying hs', Conv.unsafePointer, Conv.seenAt, viewAt, cellsIn, World.shape?, g1, hc, hcc, hne, variablesAt, hli]
    · cases h
  · cases h

theorem mCmp_sound {t : Nat} {k : Option TI} {op : BinOp} {X Y : Operand} {x y q : PV} {a b : Value} {m' : PM} (hM : MemRel c m w) (hk : ∀ i, k = some i → TyOk P t i) (hx : Rep c m w x a) (hy : Rep c m w y b) (h : mCmp k m op (some x) (some y) = some (q, m')) :
    MOk P c m w (do eqGuard op t X Y a b; binOp op t a b) q m' := by
  unfold mCmp at h
  split at h
  · rename_i e esz sz zz
    obtain ⟨ds, hs', _, hkos⟩ := (hk _ rfl).kd
    obtain ⟨info, rfl, hi', hsz⟩ := hkos
    split at h
    · rename_i b1 g1 o1 e'
      cases e'
      split at h
      · rename_i b2 g2 o2 e'
        cases e'
        split at h
        · rename_i blk hb
          obtain ⟨h1, h2⟩ := bif_some h
          clear h
          obtain ⟨h3, h4⟩ := and_t h1
          obtain ⟨h5, h6⟩ := and_t h4
          obtain ⟨h7, h8⟩ := and_t h6
          cases beq_t h3; cases beq_t h5
          have hg1 := beq_t h7
          have hg2 := beq_t h8
          split at h2
          · rename_i v hv
            cases h2
            cases hx with
            | ptr _ _ _ blk1 a1 hL1 hb1 hgg1 ha1 =>
            cases hy with
            | ptr _ _ _ blk2 a2 hL2 hb2 hgg2 ha2 =>
            rw [hb] at hb1 hb2; cases hb1; cases hb2
            rw [ha1 hg1, ha2 hg2]
            have hc := run_sizeOf (P := P) (w := w) hi'
            have hcc : P.cellsOf e = info.size := by simp [Program.cellsOf, hi']
            have U := run_underlying hs' w
            have heq : (Op.equal t (.pointer (some ⟨c.β b1, o1, none⟩)) (.pointer (some ⟨c.β b1, o1, none⟩))).run P w = .ok true w := equal_of fun d => by
              simp [Op.equalIn, U, hc, hcc, hsz, sameAddr]
            have hgd : (eqGuard op t X Y (.pointer (some ⟨c.β b1, o1, none⟩)) (.pointer (some ⟨c.β b1, o1, none⟩))).run P w = .ok () w := eqGuard_no (by simp) (by simp)
            obtain ⟨bb, hbb, hcase⟩ := eqOp_some hv
            cases hbb
            rcases hcase with ⟨rfl, rfl⟩ | ⟨rfl, rfl⟩
            · refine .same (v := .bool true) hM ?_ (.bool _)
              rw [Sem.run_bind, hgd, Result.andThen_ok, binOp_eql (by trivial) (by trivial), Sem.run_bind, heq]; rfl
            · refine .same (v := .bool (!true)) hM ?_ (.bool _)
              rw [Sem.run_bind, hgd, Result.andThen_ok, binOp_neq (by trivial) (by trivial), Sem.run_bind, heq]; rfl
          · cases h2
        · cases h
      · cases h
    · cases h
  · cases h
end
end Go.Ab
/- Maps, and texts ranged over. -/
namespace Go.Ab
section
variable {P : Program} {c : Cx} {m : PM} {w w' : World}

theorem beq_mk (l l' : List UInt8) : ((⟨⟨l⟩⟩ : ByteArray) == ⟨⟨l'⟩⟩) = (l == l') := by
  show ((⟨l⟩ : Array UInt8) == ⟨l'⟩) = _
  rw [Bool.eq_iff_iff]; simp
def KeyK (str : Bool) (kd : TypeDesc) : Prop := (str = true → kd = .string) ∧ (str = false → ∃ kk, kd = .int kk)
theorem key_val {str : Bool} {k : PV} {v : Value} (h : Rep c m w k v) (hk : isKeyS str k = true) :
    (str = false ∧ ∃ kk n, k = .int kk n ∧ v = .int kk n) ∨ (str = true ∧ ∃ l, k = .str l ∧ v = .string ⟨⟨l⟩⟩) := by
  unfold isKeyS at hk
  split at hk
  · cases h; exact .inl ⟨not_t hk, _, _, rfl, rfl⟩
  · cases h; exact .inr ⟨hk, _, rfl, rfl⟩
  · cases hk
theorem key_isKey {str : Bool} {k : PV} (hk : isKeyS str k = true) : isKey k = true := by
  unfold isKeyS at hk
  split at hk
  · rfl
  · rfl
  · cases hk
theorem key_same {str : Bool} {kd : TypeDesc} {k a : PV} {kv av : Value} {b : Bool} (hkd : KeyK str kd) (hk : isKeyS str k = true) (h : Rep c m w k kv) (ha : Rep c m w a av) (he : keyEq k a = some b) :
    Instr.sameNow kd kv av = some b ∧ (b = true → kv = av) := by
  rcases key_val h hk with ⟨hs, kk, n, rfl, rfl⟩ | ⟨hs, l, rfl, rfl⟩
  · obtain ⟨kd', rfl⟩ := hkd.2 hs
    cases a <;> simp only [keyEq] at he <;> first | (cases he; done) | skip
    obtain ⟨h1, h2⟩ := bif_some he
    have hkk := kindNo_inj h1
    subst hkk
    cases h2; cases ha
    refine ⟨by simp [Instr.sameNow, intEq_eq], fun h => ?_⟩
    rw [intEq_eq] at h
    rw [eq_of_beq h]
  · cases hkd.1 hs
    cases a <;> simp only [keyEq] at he <;> first | (cases he; done) | skip
    rename_i l'
    cases he; cases ha
    refine ⟨by simp only [Instr.sameNow, bytesEq_eq, beq_mk], fun h => ?_⟩
    rw [bytesEq_eq] at h
    rw [eq_of_beq h]

theorem findE_sound {str : Bool} {kd : TypeDesc} {k : PV} {kv : Value} (hkd : KeyK str kd) (hk : isKeyS str k = true) (hkr : Rep c m w k kv) :
    ∀ {es : List (PV × PV)} {r : List MapEntry} {j i : Nat} {res : Option (Nat × PV)}, Entries c m w j es r → findE k es i = some res →
    (res = none → Instr.findNow kd kv r i = some none) ∧
    (∀ n v, res = some (n, v) → ∃ n' e a, n = i + n' ∧ r[n']? = some e ∧ es[n']? = some (a, v) ∧ Rep c m w v e.val ∧ e.key = kv ∧ e.born = j + n' ∧ Instr.findNow kd kv r i = some (some (n, e.val)))
  | [], [], j, i, res, _, h => by
    cases h
    exact ⟨fun _ => rfl, fun n v h => by cases h⟩
  | (a, x) :: es, e :: r, j, i, res, ⟨h1, h2, h3, h4, h5⟩, h => by
    simp only [findE] at h
    split at h
    · rename_i hq
      cases h
      obtain ⟨s1, s2⟩ := key_same hkd hk hkr h1 hq
      refine ⟨fun h => (by cases h), fun n v hh => ?_⟩
      cases hh
      exact ⟨0, e, a, rfl, rfl, rfl, h2, (s2 rfl).symm, by omega, by simp only [Instr.findNow, s1]⟩
    · rename_i hq
      obtain ⟨s1, _⟩ := key_same hkd hk hkr h1 hq
      obtain ⟨f1, f2⟩ := findE_sound hkd hk hkr (i := i + 1) h5 h
      refine ⟨fun hh => by simp only [Instr.findNow, s1]; exact f1 hh, fun n v hh => ?_⟩
      obtain ⟨n', e', a', e1, e2, e3, e4, e5, e6, e7⟩ := f2 n v hh
      exact ⟨n' + 1, e', a', by omega, by simpa using e2, by simpa using e3, e4, e5, by omega, by simp only [Instr.findNow, s1]; exact e7⟩
    · cases h
  | [], _ :: _, _, _, _, h, _ => h.elim
  | _ :: _, [], _, _, _, h, _ => by cases ‹PV × PV›; exact h.elim

theorem Entries.length {j : Nat} : ∀ {es : List (PV × PV)} {r : List MapEntry}, Entries c m w j es r → r.length = es.length
  | [], [], _ => rfl
  | (_, _) :: _, _ :: _, ⟨_, _, _, _, h⟩ => by simp [h.length]
  | [], _ :: _, h => h.elim
  | (_, _) :: _, [], h => h.elim
theorem Entries.push {k v : PV} {kv vv : Value} (hk : Rep c m w k kv) (hv : Rep c m w v vv) (hik : isKey k = true) :
    ∀ {j : Nat} {es : List (PV × PV)} {r : List MapEntry} {b : Nat}, Entries c m w j es r → b = j + r.length → Entries c m w j (es ++ [(k, v)]) (r ++ [{ key := kv, val := vv, born := b }])
  | _, [], [], _, _, e => ⟨hk, hv, by simpa using e, hik, trivial⟩
  | _, (_, _) :: _, _ :: _, _, ⟨h1, h2, h3, h4, h5⟩, e => ⟨h1, h2, h3, h4, h5.push hk hv hik (by simp at e; omega)⟩
  | _, [], _ :: _, _, h, _ => h.elim
  | _, (_, _) :: _, [], _, h, _ => h.elim
theorem Entries.set {v : PV} {vv : Value} (hv : Rep c m w v vv) :
    ∀ {j n : Nat} {es : List (PV × PV)} {r : List MapEntry}, Entries c m w j es r → Entries c m w j (setE es n v) (r.modify n fun e => { e with val := vv })
  | _, _, [], [], _ => by simp [setE, Entries]
  | _, 0, (_, _) :: _, _ :: _, ⟨h1, h2, h3, h4, h5⟩ => ⟨h1, hv, h3, h4, h5⟩
  | _, n + 1, (_, _) :: _, _ :: _, ⟨h1, h2, h3, h4, h5⟩ => ⟨h1, h2, h3, h4, h5.set hv⟩
  | _, _, [], _ :: _, h => h.elim
  | _, _, (_, _) :: _, [], h => h.elim
theorem Entries.find {n : Nat} : ∀ {j : Nat} {es : List (PV × PV)} {r : List MapEntry}, Entries c m w j es r → n < r.length → r.findIdx? (fun e => ((e.born : Int) == ((j + n : Nat) : Int))) = some n
  | _, [], [], _, h => by simp at h
  | j, (_, _) :: es, e :: r, ⟨h1, h2, h3, h4, h5⟩, h => by
    rw [List.findIdx?_cons]
    cases n with
    | zero => simp [h3]
    | succ n =>
      have : ((e.born : Int) == ((j + (n + 1) : Nat) : Int)) = false := by simp [h3]; omega
      rw [this]
      have ih := Entries.find (n := n) h5 (by simpa using h)
      rw [show j + (n + 1) = (j + 1) + n from by omega, ih]; rfl
  | _, [], _ :: _, h, _ => h.elim
  | _, (_, _) :: _, [], h, _ => h.elim

theorem run_checkKey {str : Bool} {kt : TypeId} {kd : TypeDesc} {k : PV} {kv : Value} {e : Bool} (hu : P.underlying kt = some kd) (hkd : KeyK str kd) (hk : isKeyS str k = true) (hkr : Rep c m w k kv) : (Instr.checkKey e 10000 kt kv).run P w' = .ok () w' := by
  have : ∀ d, (Instr.checkKey e (d + 1) kt kv).run P w' = .ok () w' := fun d => by
    rcases key_val hkr hk with ⟨hs, kk, n, rfl, rfl⟩ | ⟨hs, l, rfl, rfl⟩
    · obtain ⟨kd', rfl⟩ := hkd.2 hs
      simp only [Instr.checkKey, Sem.run_bind, run_underlying hu, Result.andThen_ok, Sem.run_pure]
    · cases hkd.1 hs
      simp only [Instr.checkKey, Sem.run_bind, run_underlying hu, Result.andThen_ok, Sem.run_pure]
  exact this 9999
theorem run_findKey {kt : TypeId} {kd : TypeDesc} {kv : Value} {es : List MapEntry} {r : Option (Nat × Value)} (hu : P.underlying kt = some kd) (h : Instr.findNow kd kv es 0 = some r) : (Instr.findKey kt kv es).run P w = .ok r w := by
  unfold Instr.findKey
  simp only [Sem.run_bind, run_underlying hu, Result.andThen_ok, h, Sem.run_pure]
theorem run_stays {str : Bool} {k : PV} {kv : Value} (hk : isKeyS str k = true) (hkr : Rep c m w k kv) : (Instr.keyThatStays kv kv).run P w' = .ok kv w' := by
  have : ∀ d, Instr.sameBits (d + 1) kv kv = true := fun d => by
    rcases key_val hkr hk with ⟨hs, kk, n, rfl, rfl⟩ | ⟨hs, l, rfl, rfl⟩
    · simp [Instr.sameBits]
    · simp [Instr.sameBits, beq_mk]
  unfold Instr.keyThatStays
  rw [if_pos (this 9999)]; rfl

theorem tupOk_rep {ok b : Bool} {x : PV} {v : Value} (h : Rep c m w x v) : Rep c m w (tupOk ok x b) (if ok then .tuple #[v, .bool b] else v) := by
  cases ok with
  | false => exact h
  | true => exact .tup _ _ (.cons _ _ _ _ h (.cons _ _ _ _ (.bool b) .nil))

theorem blk_map {b : Nat} {es : List (PV × PV)} (hM : MemRel c m w) (hL : c.L b) (hb : m.get b = some (.map es)) : ∃ r : List MapEntry, w.heap[c.β b]? = some (.map ⟨r⟩ r.length) ∧ Entries c m w 0 es r := hM.blk b _ hL hb
theorem run_getMap {b : Nat} {r : List MapEntry} (h : w.heap[b]? = some (.map ⟨r⟩ r.length)) : (getObj b).run P w = .ok (.map ⟨r⟩ r.length) w := by
  simp [getObj, Sem.run, h]

theorem mLookup_sound {t : Nat} {k : Option TI} {x i q : PV} {xv iv : Value} {ok : Bool} {m' : PM} (hM : MemRel c m w) (hk : ∀ i, k = some i → TyOk P t i) (hx : Rep c m w x xv) (hi : Rep c m w i iv) (h : mLookup k m (some x) (some i) ok = some (q, m')) :
    MOk P c m w (Instr.lookup t xv iv ok) q m' := by
  unfold mLookup at h
  split at h
  · rename_i sk z sz zz
    obtain ⟨d, hd, hagg, hko⟩ := (hk _ rfl).kd
    obtain ⟨kt, e, kd, rfl, hu, hk1, hk2, hz⟩ := hko
    obtain ⟨info, zv, z1, z2, z3⟩ := hz z rfl
    have hzr : (zeroValue e).run P w = .ok zv w := by
      unfold zeroValue
      rw [Sem.run_bind, run_typeInfo (P := P) (w := w) z1, Result.andThen_ok, z2]; rfl
    split at h
    · rename_i key ek
      cases ek
      obtain ⟨h1, h2⟩ := bif_some h
      clear h
      split at h2
      · rename_i ex
        cases ex; cases h2; cases hx
        refine .same hM ?_ (tupOk_rep (z3 c m w))
        have C := run_checkKey (P := P) (w' := w) (e := true) hu ⟨hk1, hk2⟩ h1 hi
        have F := run_findKey (P := P) (w := w) (es := []) (kv := iv) (r := none) hu rfl
        unfold Instr.lookup
        simp only [Sem.run_bind, run_underlying hd, Result.andThen_ok, Sem.run_pure, Array.isEmpty_empty, C, F, hzr]
      · rename_i b ex
        cases ex
        cases hx with
        | map _ es0 hL hb0 =>
        split at h2
        · rename_i es hb
          obtain ⟨r, r1, r2⟩ := blk_map hM hL hb
          have C := run_checkKey (P := P) (w' := w) (e := (⟨r⟩ : Array MapEntry).isEmpty) hu ⟨hk1, hk2⟩ h1 hi
          have G := run_getMap (P := P) r1
          split at h2
          · rename_i n v hf
            cases h2
            obtain ⟨_, f2⟩ := findE_sound ⟨hk1, hk2⟩ h1 hi r2 hf
            obtain ⟨n', e', a', e1, e2, e3, e4, e5, e6, e7⟩ := f2 n v rfl
            have F := run_findKey (P := P) (w := w) hu e7
            refine .same hM ?_ (tupOk_rep e4)
            unfold Instr.lookup
            simp only [Sem.run_bind, run_underlying hd, Result.andThen_ok, Sem.run_pure, G, C, F]
          · rename_i hf
            cases h2
            obtain ⟨f1, _⟩ := findE_sound ⟨hk1, hk2⟩ h1 hi r2 hf
            have F := run_findKey (P := P) (w := w) hu (f1 rfl)
            refine .same hM ?_ (tupOk_rep (z3 c m w))
            unfold Instr.lookup
            simp only [Sem.run_bind, run_underlying hd, Result.andThen_ok, Sem.run_pure, G, C, F, hzr]
          · cases h2
        · cases h2
      · cases h2
    · cases h
  · cases h

/-- a map's block is laid anew -/
theorem map_upd {b : Nat} {es es' : List (PV × PV)} {r r' : List MapEntry} (hM : MemRel c m w) (hL : c.L b) (hb : m.get b = some (.map es)) (hr : w.heap[c.β b]? = some (.map ⟨r⟩ r.length)) (hn : Entries c m w 0 es' r') :
    ∃ w', (setObj (c.β b) (.map ⟨r'⟩ r'.length)).run P w = .ok () w' ∧ Ext c m w c (m.upd b (.map es')) w' ∧ MemRel c (m.upd b (.map es')) w' := by
  refine ⟨{ w with heap := w.heap.setIfInBounds (c.β b) (.map ⟨r'⟩ r'.length) }, by simp [setObj, Sem.run, hr], ?_⟩
  have hlt := (Array.getElem?_eq_some_iff.1 hr).1
  refine ext_upd hM hL hb rfl rfl trivial (by simp) (fun B hB => by simp [Array.getElem?_setIfInBounds, Ne.symm hB]) (fun arr et fz h => by rw [hr] at h; cases h) ⟨rfl, rfl, rfl⟩ fun hC => ?_
  exact ⟨r', by simp [Array.getElem?_setIfInBounds, hlt], hn.carry hC⟩

theorem modify_same {r : List MapEntry} {n : Nat} {e : MapEntry} {f : MapEntry → MapEntry} (h : r[n]? = some e) (hf : f e = e) : r.modify n f = r := by
  apply List.ext_getElem?
  intro i
  rw [List.getElem?_modify]
  split
  · rename_i hh; subst hh; simp [h, hf]
  · simp

theorem mUpdate_sound {t : Nat} {k : Option TI} {x i v q : PV} {xv iv vv : Value} {m' : PM} (hM : MemRel c m w) (hk : ∀ i, k = some i → TyOk P t i) (hx : Rep c m w x xv) (hi : Rep c m w i iv) (hv : Rep c m w v vv) (h : mUpdate k m (some x) (some i) (some v) = some (q, m')) :
    q = undefPV ∧ ∃ w', (Instr.mapUpdate t xv iv vv).run P w = .ok () w' ∧ Ext c m w c m' w' ∧ MemRel c m' w' := by
  unfold mUpdate at h
  split at h
  · rename_i sk ez sz zz
    obtain ⟨d, hd, hagg, hko⟩ := (hk _ rfl).kd
    obtain ⟨kt, e, kd, rfl, hu, hk1, hk2, hz⟩ := hko
    split at h
    · rename_i b ex
      cases ex
      simp only at h
      cases hx with
      | map _ es0 hL hb0 =>
      split at h
      · rename_i es hb
        obtain ⟨h1, h2⟩ := bif_some h
        clear h
        obtain ⟨r, r1, r2⟩ := blk_map hM hL hb
        have C := run_checkKey (P := P) (w' := w) (e := false) hu ⟨hk1, hk2⟩ h1 hi
        have G := run_getMap (P := P) r1
        split at h2
        · rename_i n v0 hf
          cases h2
          obtain ⟨_, f2⟩ := findE_sound ⟨hk1, hk2⟩ h1 hi r2 hf
          obtain ⟨n', e', a', e1, e2, e3, e4, e5, e6, e7⟩ := f2 n v0 rfl
          have hn : n = n' := by omega
          subst hn
          have F := run_findKey (P := P) (w := w) hu e7
          have hst := run_stays (P := P) (w' := w) h1 hi
          have hmod : r.modify n (fun e => { e with key := iv, val := vv }) = r.modify n (fun e => { e with val := vv }) := by
            apply List.ext_getElem?
            intro j
            rw [List.getElem?_modify, List.getElem?_modify]
            by_cases hj : n = j
            · subst hj; simp only [if_pos, e2, ← e5]; rfl
            · simp [hj]
          obtain ⟨w', s1, s2, s3⟩ := map_upd (P := P) (es' := setE es n v) (r' := r.modify n fun e => { e with val := vv }) hM hL hb r1 (r2.set hv)
          refine ⟨rfl, w', ?_, s2, s3⟩
          unfold Instr.mapUpdate
          simp only [Sem.run_bind, run_underlying hd, Result.andThen_ok, G, C, F, List.getElem?_toArray, e2, Option.map_some, Option.getD_some, e5, hst, List.modify_toArray, hmod]
          simpa using s1
        · rename_i hf
          cases h2
          obtain ⟨f1, _⟩ := findE_sound ⟨hk1, hk2⟩ h1 hi r2 hf
          have F := run_findKey (P := P) (w := w) hu (f1 rfl)
          obtain ⟨w', s1, s2, s3⟩ := map_upd (P := P) (es' := es ++ [(i, v)]) (r' := r ++ [{ key := iv, val := vv, born := r.length }]) hM hL hb r1 (r2.push hi hv (key_isKey h1) (by omega))
          refine ⟨rfl, w', ?_, s2, s3⟩
          unfold Instr.mapUpdate
          simp only [Sem.run_bind, run_underlying hd, Result.andThen_ok, G, C, F, List.push_toArray]
          simpa using s1
        · cases h2
      · cases h
    · cases h
  · cases h

theorem mEntry_sound {t : Nat} {k : Option TI} {x i q : PV} {xv iv : Value} {m' : PM} (hM : MemRel c m w) (hk : ∀ i, k = some i → TyOk P t i) (hx : Rep c m w x xv) (hi : Rep c m w i iv) (h : mEntry k m (some x) (some i) = some (q, m')) :
    MOk P c m w (Instr.mapEntry t xv iv) q m' := by
  unfold mEntry at h
  split at h
  · rename_i sk z sz zz
    obtain ⟨d, hd, hagg, hko⟩ := (hk _ rfl).kd
    obtain ⟨kt, e, kd, rfl, hu, hk1, hk2, hz⟩ := hko
    obtain ⟨info, zv, z1, z2, z3⟩ := hz z rfl
    have hzr : (zeroValue e).run P w = .ok zv w := by
      unfold zeroValue
      rw [Sem.run_bind, run_typeInfo (P := P) (w := w) z1, Result.andThen_ok, z2]; rfl
    split at h
    · rename_i b ex
      cases ex
      simp only at h
      cases hx with
      | map _ es0 hL hb0 =>
      split at h
      · rename_i es hb
        obtain ⟨h1, h2⟩ := bif_some h
        clear h
        obtain ⟨r, r1, r2⟩ := blk_map hM hL hb
        have C := run_checkKey (P := P) (w' := w) (e := false) hu ⟨hk1, hk2⟩ h1 hi
        have G := run_getMap (P := P) r1
        split at h2
        · rename_i n v0 hf
          cases h2
          obtain ⟨_, f2⟩ := findE_sound ⟨hk1, hk2⟩ h1 hi r2 hf
          obtain ⟨n', e', a', e1, e2, e3, e4, e5, e6, e7⟩ := f2 n v0 rfl
          have hn : n = n' := by omega
          subst hn
          have F := run_findKey (P := P) (w := w) hu e7
          have hst := run_stays (P := P) (w' := w) h1 hi
          have hmod : r.modify n (fun e => { e with key := iv }) = r := modify_same e2 (by rw [← e5])
          have hlt := (Array.getElem?_eq_some_iff.1 r1).1
          have hw : (setObj (c.β b) (.map ⟨r⟩ r.length)).run P w = .ok () { w with heap := w.heap.setIfInBounds (c.β b) (.map ⟨r⟩ r.length) } := by simp [setObj, Sem.run, r1]
          have hheap : w.heap.setIfInBounds (c.β b) (.map ⟨r⟩ r.length) = w.heap := by
            apply Array.ext_getElem?
            intro j
            rw [Array.getElem?_setIfInBounds]
            split
            · rename_i hj; subst hj; rw [r1]
            · rfl
          rw [hheap] at hw
          refine .same hM ?_ (.tup _ _ (.cons _ _ _ _ e4 (.cons _ _ _ _ (.int _ _) .nil)))
          unfold Instr.mapEntry
          simp only [Sem.run_bind, run_underlying hd, Result.andThen_ok, G, C, F, List.getElem?_toArray, e2, Option.map_some, Option.getD_some, e5, hst, List.modify_toArray, hmod]
          rw [hw]
          simp [goInt, e6]
        · rename_i hf
          cases h2
          obtain ⟨f1, _⟩ := findE_sound ⟨hk1, hk2⟩ h1 hi r2 hf
          have F := run_findKey (P := P) (w := w) hu (f1 rfl)
          obtain ⟨w', s1, s2, s3⟩ := map_upd (P := P) (es' := es ++ [(i, z)]) (r' := r ++ [{ key := iv, val := zv, born := r.length }]) hM hL hb r1 (r2.push hi (z3 c m w) (key_isKey h1) (by omega))
          have hel : es.length = r.length := r2.length.symm
          refine ⟨_, w', c, ?_, s2, s3, .tup _ _ (.cons _ _ _ _ (z3 _ _ _) (.cons _ _ _ _ (.int _ _) .nil))⟩
          unfold Instr.mapEntry
          simp only [Sem.run_bind, run_underlying hd, Result.andThen_ok, G, C, F, hzr, List.push_toArray]
          have s1' : (setObj (c.β b) (.map (r ++ [({ key := iv, val := zv, born := r.length } : MapEntry)]).toArray (r.length + 1))).run P w = .ok () w' := by simpa using s1
          rw [s1']
          simp [goInt, hel]
        · cases h2
      · cases h
    · cases h
  · cases h

theorem mEntryStore_sound {t : Nat} {x s v q : PV} {xv sv vv : Value} {m' : PM} (hM : MemRel c m w) (hx : Rep c m w x xv) (hs : Rep c m w s sv) (hv : Rep c m w v vv) (h : mEntryStore m (some x) (some s) (some v) = some (q, m')) :
    q = undefPV ∧ ∃ w', (Instr.entryStore t xv sv vv).run P w = .ok () w' ∧ Ext c m w c m' w' ∧ MemRel c m' w' := by
  unfold mEntryStore at h
  split at h
  · rename_i b ex
    cases ex
    split at h
    · rename_i kk i es
      cases es
      simp only at h
      cases hx with
      | map _ es0 hL hb0 =>
      split at h
      · rename_i es hb
        obtain ⟨h1, h2⟩ := bif_some h
        cases h2
        cases hs
        obtain ⟨r, r1, r2⟩ := blk_map hM hL hb
        have G := run_getMap (P := P) r1
        have hi : i < r.length := by rw [r2.length]; simp [Nat.blt] at h1; omega
        have hf := r2.find hi
        simp only [Nat.zero_add] at hf
        obtain ⟨w', s1, s2, s3⟩ := map_upd (P := P) (es' := setE es i v) (r' := r.modify i fun e => { e with val := vv }) hM hL hb r1 (r2.set hv)
        refine ⟨rfl, w', ?_, s2, s3⟩
        unfold Instr.entryStore
        simp only [Sem.run_bind, Result.andThen_ok, G, asInt, asIntOf, Sem.run_pure, List.findIdx?_toArray, Int.ofNat_eq_natCast, hf, List.modify_toArray]
        simpa using s1
      · cases h
    · cases h
  · cases h

theorem mMakeMap_sound {t : Nat} {k : Option TI} {r : Operand → Value} {o : Option Operand} {q : PV} {m' : PM} (hM : MemRel c m w) (hk : ∀ i, k = some i → TyOk P t i) (hr : ∀ kk n, o = some (.const (.int kk n)) → r (.const (.int kk n)) = .int kk n) (h : mMakeMap k m o = some (q, m')) :
    MOk P c m w (Instr.makeMap t (o.map r)) q m' := by
  unfold mMakeMap at h
  split at h
  · rename_i sk ez sz zz
    obtain ⟨d, hd, hagg, hko⟩ := (hk _ rfl).kd
    obtain ⟨kt, e, kd, rfl, hu, hk1, hk2, hz⟩ := hko
    have key : ∀ {w2 : World}, w2 = w.alloc (.map #[] 0) → Ext c m w (c.move m.next w.heap.size) (m.new (.map [])) w2 ∧ MemRel (c.move m.next w.heap.size) (m.new (.map [])) w2 ∧ Rep (c.move m.next w.heap.size) (m.new (.map [])) w2 (.map m.next) (.map (some w.heap.size)) := by
      rintro w2 rfl
      obtain ⟨e1, e2⟩ := ext_move (b := m.next) (blk' := .map []) (w' := w.alloc (.map #[] 0)) (o := .map #[] 0) hM (.inr ⟨rfl, rfl⟩) rfl rfl ⟨rfl, rfl, rfl⟩ fun hC => ⟨[], by rw [move_β]; exact alloc_heap_new, trivial⟩
      refine ⟨e1, e2, ?_⟩
      have := Rep.map (c := c.move m.next w.heap.size) (m := m.new (.map [])) (w := w.alloc (.map #[] 0)) m.next [] (.inr rfl) (by rw [PM.get_new, if_pos rfl])
      rwa [move_β] at this
    split at h
    · cases h
      obtain ⟨e1, e2, e3⟩ := key rfl
      exact ⟨_, _, _, by simp [Instr.makeMap], e1, e2, e3⟩
    · rename_i kk n
      cases h
      obtain ⟨e1, e2, e3⟩ := key rfl
      exact ⟨_, _, _, by simp [Instr.makeMap, hr kk n rfl, run_underlying hd, asInt, asIntOf], e1, e2, e3⟩
    · cases h
  · cases h

theorem mRange_sound {t : Nat} {k : Option TI} {x q : PV} {xv : Value} {m' : PM} (hM : MemRel c m w) (hk : ∀ i, k = some i → TyOk P t i) (hx : Rep c m w x xv) (h : mRange k m (some x) = some (q, m')) : MOk P c m w (Instr.range t xv) q m' := by
  unfold mRange at h
  split at h
  · obtain ⟨d, hd, hagg, hko⟩ := (hk _ rfl).kd
    cases hko
    split at h
    · rename_i l ex
      cases ex; cases h; cases hx
      obtain ⟨e1, e2⟩ := ext_move (b := m.next) (blk' := .iter l 0) (w' := w.alloc (.stringIter ⟨⟨l⟩⟩ 0)) (o := .stringIter ⟨⟨l⟩⟩ 0) hM (.inr ⟨rfl, rfl⟩) rfl rfl ⟨rfl, rfl, rfl⟩ fun hC => by
        show (w.alloc _).heap[_]? = _
        rw [move_β]; exact alloc_heap_new
      exact ⟨.pointer (some ⟨w.heap.size, 0, none⟩), _, _, by simp [Instr.range, run_underlying hd], e1, e2, .ptr _ _ _ (.iter l 0) _ (.inr rfl) (by rw [PM.get_new, if_pos rfl]) (Nat.le_refl _) fun _ => by rw [move_β]⟩
    · cases h
  · cases h

theorem mNext_sound {x q : PV} {xv : Value} {b : Bool} {ty : TypeId} {m' : PM} (hM : MemRel c m w) (hx : Rep c m w x xv) (h : mNext m (some x) b = some (q, m')) : MOk P c m w (Instr.next xv b ty) q m' := by
  unfold mNext at h
  split at h
  · split at h
    · rename_i bb ex
      cases ex
      split at h
      · rename_i l p hb
        cases hx with
        | ptr _ _ _ blk a hL hb' hgg ha =>
        rw [hb] at hb'; cases hb'
        rw [ha rfl]
        have hat : w.heap[c.β bb]? = some (.stringIter ⟨⟨l⟩⟩ p) := hM.blk bb _ hL hb
        have G : (getObj (c.β bb)).run P w = .ok (.stringIter ⟨⟨l⟩⟩ p) w := by simp [getObj, Sem.run, hat]
        split at h
        · rename_i hn
          cases h
          rw [nthN_eq] at hn
          have hge : ¬ (p < (⟨⟨l⟩⟩ : ByteArray).size) := by
            rw [size_mk]
            have := List.getElem?_eq_none_iff.1 hn
            omega
          refine .same hM ?_ (.tup _ _ (.cons _ _ _ _ (.bool false) .nil))
          unfold Instr.next
          simp only [Sem.run_bind, Result.andThen_ok, G, if_neg hge, Sem.run_pure]
        · rename_i ch hn
          obtain ⟨h1, h2⟩ := bif_some h
          cases h2
          rw [nthN_eq] at hn
          obtain ⟨hlt, hch⟩ := List.getElem?_eq_some_iff.1 hn
          have hlt' : p < (⟨⟨l⟩⟩ : ByteArray).size := hlt
          have hget : (⟨⟨l⟩⟩ : ByteArray)[p]'hlt' = ch := hch
          have h128 : ch.toNat < 128 := by simp [Nat.blt] at h1; omega
          have D := decode_ascii ⟨⟨l⟩⟩ p hlt' (by rw [hget]; exact h128)
          rw [hget] at D
          have hlt2 := (Array.getElem?_eq_some_iff.1 hat).1
          obtain ⟨e1, e2⟩ := ext_upd (blk' := .iter l (Nat.succ p)) (w' := { w with heap := w.heap.setIfInBounds (c.β bb) (.stringIter ⟨⟨l⟩⟩ (p + 1)) }) hM hL hb rfl rfl trivial (by simp) (fun B hB => by simp [Array.getElem?_setIfInBounds, Ne.symm hB]) (fun arr et fz h => by rw [hat] at h; cases h) ⟨rfl, rfl, rfl⟩
            (fun hC => by show (w.heap.setIfInBounds _ _)[_]? = _; simp [Array.getElem?_setIfInBounds, hlt2])
          refine ⟨_, _, _, ?_, e1, e2, .tup _ _ (.cons _ _ _ _ (.bool true) (.cons _ _ _ _ (.int _ _) (.cons _ _ _ _ (.int _ _) .nil)))⟩
          unfold Instr.next
          simp only [Sem.run_bind, Result.andThen_ok, G, if_pos hlt', D]
          simp [setObj, Sem.run, hat, goInt]
      · cases h
    · cases h
  · cases h
end
end Go.Ab
/- One operation: what the interpreter answers, the model does. -/
namespace Go.Ab
section
variable {P : Program} {c : Cx} {m : PM} {w : World}

theorem undef_rep : Rep c m w undefPV undef := .tup [] [] .nil

/-- what an operation does, with a value or without -/
def Does (P : Program) (c : Cx) (m : PM) (w : World) (s : Sem Next) (q : PV) (m' : PM) : Prop :=
  ∃ n v w' c', s.run P w = .ok n w' ∧ (n = .value v ∨ (n = .skip ∧ v = undef)) ∧ Ext c m w c' m' w' ∧ MemRel c' m' w' ∧ Rep c' m' w' q v
theorem MOk.does {s : Sem Value} {q : PV} {m' : PM} (h : MOk P c m w s q m') : Does P c m w (do pure (.value (← s))) q m' := by
  obtain ⟨v, w', c', h1, h2, h3, h4⟩ := h
  exact ⟨.value v, v, w', c', by rw [Sem.run_bind, h1]; rfl, .inl rfl, h2, h3, h4⟩
theorem does_unit {s : Sem Unit} {q : PV} {m' : PM} {w' : World} {c' : Cx} (hq : q = undefPV) (h : s.run P w = .ok () w') (h2 : Ext c m w c' m' w') (h3 : MemRel c' m' w') : Does P c m w (do s; pure .skip) q m' := by
  subst hq
  exact ⟨.skip, undef, w', c', by rw [Sem.run_bind, h]; rfl, .inr ⟨rfl, rfl⟩, h2, h3, undef_rep⟩

theorem mBuiltin_sound {E : Env} (hE : ∀ t i, E.ty t = some i → TyOk P t i) {b : Builtin} {ts : Array TypeId} {ty : TypeId} {cs : Array Bool} {l : List PV} {args : Array Value} {q : PV} {m' : PM} (hM : MemRel c m w)
    (hl : Reps c m w l args.toList) (h : mBuiltin E m b ts.toList (some l) = some (q, m')) : Does P c m w (builtin b ts ty cs args) q m' := by
  obtain ⟨args⟩ := args
  obtain ⟨ts⟩ := ts
  simp only at hl h
  have key : ∀ (t t' : Nat) (s x : PV) (u v : Value), Rep c m w s u → Rep c m w x v → mAppend (E.ty t) m s x = some (q, m') → ∀ d', P.underlying t' = some d' → ((∃ e', d' = .slice e') ∨ d' = .string) →
      Does P c m w (builtin .append #[t, t'] ty cs #[u, v]) q m' := by
    intro t t' s x u v hs hx h d' hd' hsl
    unfold mAppend at h
    split at h
    · rename_i e esz eb z sz zz hk
      obtain ⟨d, hd, hagg, hko⟩ := (hE t _ hk).kd
      obtain ⟨rfl, ⟨i, d2, hi, hd2, hs', hb', _⟩, hzo⟩ := hko
      obtain ⟨zv, info2, hinf, hz, hzr, hz1, hz2⟩ := zeroOk_run (c := c) (m := m) (w := w) hzo rfl
      rw [hi] at hinf; cases hinf
      have hz0 : i.zero = some zv := by
        unfold zeroValue at hz
        rw [Sem.run_bind, run_typeInfo (P := P) (w := w) hi, Result.andThen_ok] at hz
        cases hzz : i.zero with
        | none => rw [hzz] at hz; cases hz
        | some z0 => rw [hzz] at hz; cases hz; rfl
      obtain ⟨h0, h1⟩ := bif_none h
      split at h1
      · rename_i cs' n hap
        obtain ⟨h3, h4⟩ := bif_some h1
        exact (mAppend2_sound (P := P) (ty := ty) hM hd hd' hsl hi hz0 hz2 hs' hb' hs hx hap h3 h4).does
      · cases h1
    · cases h
  unfold mBuiltin at h
  split at h
  · -- append
    split at h
    · rename_i s x e
      cases e
      obtain ⟨u, v, rfl, hs, hx⟩ := hl.two
      split at h
      · rename_i t t'
        split at h
        · rename_i kk sz zz ht'
          obtain ⟨d', hd', _, hko'⟩ := (hE t' _ ht').kd
          cases hko'
          exact (mAppendZ_sound (P := P) (t := t) (t' := t') (ty := ty) hM (fun i hi => hE t i hi) hd' hs hx h).does
        · rename_i e2 x2 y2 z2 sz2 zz2 ht'
          obtain ⟨d', hd', _, hko'⟩ := (hE t' _ ht').kd
          obtain ⟨rfl, _⟩ := hko'
          exact key t t' s x u v hs hx h _ hd' (.inl ⟨_, rfl⟩)
        · rename_i sz2 zz2 ht'
          obtain ⟨d', hd', _, hko'⟩ := (hE t' _ ht').kd
          cases hko'
          exact key t t' s x u v hs hx h _ hd' (.inr rfl)
        · cases h
      · cases h
    · cases h
  · -- copy
    split at h
    · rename_i d x e
      cases e
      obtain ⟨u, v, rfl, hs, hx⟩ := hl.two
      split at h
      · rename_i t r
        exact (mCopy_sound (P := P) (t := t) (ty := ty) (ts := ⟨t :: r⟩) hM (fun i hi => hE t i hi) rfl hs hx h).does
      · cases h
    · cases h
  · split at h
    · rename_i p n e
      cases e
      obtain ⟨u, v, rfl, hs, hx⟩ := hl.two
      cases hx
      split at h
      · rename_i t it
        exact (mUnsafeString_sound (P := P) (t := t) (it := it) (ty := ty) hM (fun i hi => hE t i hi) hs h).does
      · cases h
    · cases h
  · cases h

theorem evM_sound {E : Env} (hE : ∀ t i, E.ty t = some i → TyOk P t i) (hM : MemRel c m w) {ρ : Operand → Option PV} {r : Operand → Value} {o : Oper} (hρ : ∀ k n, ρ (.const (.int k n)) = some (.int k n))
    (hr : ∀ x ∈ o.op.operands, ∀ p, ρ x = some p → Rep c m w p (r x)) {q : PV} {m' : PM} (h : evM E ρ m o.op = some (q, m')) : Does P c m w (execOp r o) q m' := by
  obtain ⟨dst, op, type, pos, after, guard⟩ := o
  simp only at h hr
  cases op <;> simp only [evM] at h <;> first | (cases h; done) | skip
  case alloc t => exact (mAlloc_sound (P := P) hM (fun i hi => hE t i hi) h _).does
  case box t x =>
    cases hx : ρ x with
    | none => rw [hx] at h; cases h
    | some a =>
      rw [hx] at h
      exact (mBox_sound (P := P) hM (hr x (by simp [Op.operands]) _ hx) h).does
  case load t a =>
    cases hk : E.ty t with
    | none => rw [hk] at h; cases h
    | some i =>
      rw [hk] at h
      cases ha : ρ a with
      | none => rw [ha] at h; cases h
      | some p =>
        rw [ha] at h
        have hp := hr a (by simp [Op.operands]) _ ha
        obtain ⟨rfl, ad, u, h1, h2, h3⟩ := mLoad_sound hM (hE t _ hk) hp h
        refine MOk.does (s := Instr.loadAt t (r a)) (.same hM ?_ h3)
        rw [h1]
        exact h2
  case store t a x =>
    cases hk : E.ty t with
    | none => rw [hk] at h; cases h
    | some i => cases ha : ρ a with
      | none => rw [hk, ha] at h; cases h
      | some p => cases hx : ρ x with
        | none =>
          rw [hk, ha, hx] at h; unfold mStore at h
          simp only at h
          split at h <;> cases h
        | some y =>
          rw [hk, ha, hx] at h
          obtain ⟨h1, w', h2, h3, h4⟩ := mStore_sound (P := P) hM (hE t _ hk) (hr a (by simp [Op.operands]) _ ha) (hr x (by simp [Op.operands]) _ hx) h
          exact does_unit h1 h2 h3 h4
  case binOp op t x y ty =>
    cases hx : ρ x with
    | none => rw [hx] at h; unfold mCmp at h; split at h <;> cases h
    | some a => cases hy : ρ y with
      | none => rw [hx, hy] at h; unfold mCmp at h; split at h <;> first | (cases h; done) | (split at h <;> cases h)
      | some b =>
        rw [hx, hy] at h
        exact (mCmp_sound (P := P) hM (fun i hi => hE t i hi) (hr x (by simp [Op.operands]) _ hx) (hr y (by simp [Op.operands]) _ hy) h).does
  case convert s d x =>
    cases hx : ρ x with
    | none =>
      rw [hx] at h; unfold mConv mSeen at h
      split at h <;> first | (cases h; done) | (split at h <;> cases h)
    | some a =>
      rw [hx] at h
      exact (mConv_sound (P := P) hM (fun i hi => hE s i hi) (fun i hi => hE d i hi) (hr x (by simp [Op.operands]) _ hx) h).does
  case makeMap t o =>
    refine (mMakeMap_sound (P := P) hM (fun i hi => hE t i hi) (fun kk n e => ?_) h).does
    subst e
    have := hr (.const (.int kk n)) (by simp [Op.operands]) _ (hρ kk n)
    generalize r (.const (.int kk n)) = v at this
    cases this; rfl
  case makeSlice t l n =>
    cases hl : ρ l with
    | none => rw [hl] at h; unfold mMakeSlice at h; split at h <;> cases h
    | some a => cases hn : ρ n with
      | none => rw [hl, hn] at h; unfold mMakeSlice at h; split at h <;> first | (cases h; done) | (split at h <;> cases h)
      | some b =>
        rw [hl, hn] at h
        exact (mMakeSlice_sound (P := P) hM (fun i hi => hE t i hi) (hr l (by simp [Op.operands]) _ hl) (hr n (by simp [Op.operands]) _ hn) h).does
  case lookup t x i ok =>
    cases hi : ρ i with
    | none => rw [hi] at h; unfold mLookup at h; split at h <;> cases h
    | some b => cases hx : ρ x with
      | none => rw [hi, hx] at h; unfold mLookup at h; split at h <;> first | (cases h; done) | (obtain ⟨_, h⟩ := bif_some h; cases h)
      | some a =>
        rw [hi, hx] at h
        exact (mLookup_sound (P := P) hM (fun i hi => hE t i hi) (hr x (by simp [Op.operands]) _ hx) (hr i (by simp [Op.operands]) _ hi) h).does
  case mapUpdate t x i v =>
    cases hx : ρ x with
    | none => rw [hx] at h; unfold mUpdate at h; split at h <;> cases h
    | some a => cases hi : ρ i with
      | none => rw [hi, hx] at h; unfold mUpdate at h; split at h <;> first | (cases h; done) | (split at h <;> cases h)
      | some b => cases hv : ρ v with
        | none => rw [hi, hx, hv] at h; unfold mUpdate at h; split at h <;> first | (cases h; done) | (split at h <;> cases h)
        | some y =>
          rw [hi, hx, hv] at h
          obtain ⟨h1, w', h2, h3, h4⟩ := mUpdate_sound (P := P) hM (fun i hi => hE t i hi) (hr x (by simp [Op.operands]) _ hx) (hr i (by simp [Op.operands]) _ hi) (hr v (by simp [Op.operands]) _ hv) h
          exact does_unit h1 h2 h3 h4
  case mapEntry t x i =>
    cases hx : ρ x with
    | none => rw [hx] at h; unfold mEntry at h; split at h <;> cases h
    | some a => cases hi : ρ i with
      | none => rw [hi, hx] at h; unfold mEntry at h; split at h <;> first | (cases h; done) | (split at h <;> cases h)
      | some b =>
        rw [hi, hx] at h
        exact (mEntry_sound (P := P) hM (fun i hi => hE t i hi) (hr x (by simp [Op.operands]) _ hx) (hr i (by simp [Op.operands]) _ hi) h).does
  case entryStore t x s v =>
    cases hx : ρ x with
    | none => rw [hx] at h; cases h
    | some a => cases hi : ρ s with
      | none => rw [hi, hx] at h; unfold mEntryStore at h; split at h <;> cases h
      | some b => cases hv : ρ v with
        | none => rw [hi, hx, hv] at h; unfold mEntryStore at h; split at h <;> first | (cases h; done) | (split at h <;> cases h)
        | some y =>
          rw [hi, hx, hv] at h
          obtain ⟨h1, w', h2, h3, h4⟩ := mEntryStore_sound (P := P) (t := t) hM (hr x (by simp [Op.operands]) _ hx) (hr s (by simp [Op.operands]) _ hi) (hr v (by simp [Op.operands]) _ hv) h
          exact does_unit h1 h2 h3 h4
  case range t x =>
    cases hx : ρ x with
    | none => rw [hx] at h; unfold mRange at h; split at h <;> cases h
    | some a =>
      rw [hx] at h
      exact (mRange_sound (P := P) hM (fun i hi => hE t i hi) (hr x (by simp [Op.operands]) _ hx) h).does
  case next x b =>
    cases hx : ρ x with
    | none => rw [hx] at h; unfold mNext at h; split at h <;> cases h
    | some a =>
      rw [hx] at h
      exact (mNext_sound (P := P) hM (hr x (by simp [Op.operands]) _ hx) h).does
  case call cl =>
    obtain ⟨callee, args, ats⟩ := cl
    simp only at h
    split at h
    · rename_i b
      cases hl : evs ρ args.toList with
      | none => rw [hl] at h; unfold mBuiltin at h; cases b <;> cases h
      | some l =>
        rw [hl] at h
        have hrs := evs_sound (r := r) (fun x hx => hr x (by simp [Op.operands, Call.operands]; simpa using hx)) hl
        have := mBuiltin_sound (P := P) (b := b) (ts := ats) (ty := type) (cs := args.map fun | .const _ => true | _ => false) (args := args.map r) hE hM (by simpa using hrs) h
        have e : execOp r { dst := dst, op := .call ⟨.builtin b, args, ats⟩, type := type, pos := pos, after := after, guard := guard } = builtin b ats type (args.map fun | .const _ => true | _ => false) (args.map r) := by
          rfl
        rw [e]; exact this
    · cases h

theorem evOp_sound {E : Env} (hE : ∀ t i, E.ty t = some i → TyOk P t i) (hM : MemRel c m w) {ρ : Operand → Option PV} {r : Operand → Value} {o : Oper} (hρ : ∀ k n, ρ (.const (.int k n)) = some (.int k n))
    (hr : ∀ x ∈ o.op.operands, ∀ p, ρ x = some p → Rep c m w p (r x)) {q : PV} {m' : PM} (h : evOp E ρ m o.op = some (q, m')) : Does P c m w (execOp r o) q m' := by
  unfold evOp at h
  cases hb : isM o.op with
  | true => rw [hb] at h; exact evM_sound hE hM hρ hr h
  | false =>
    rw [hb] at h
    simp only [cond_false] at h
    cases hp : evP E ρ o.op with
    | none => rw [hp] at h; exact evM_sound hE hM hρ hr h
    | some v =>
      rw [hp] at h; cases h
      obtain ⟨v, w', c', h1, h2, h3, h4⟩ := evP_sound hE hM hr hp
      exact ⟨.value v, v, w', c', h1, .inl rfl, h2, h3, h4⟩
end
end Go.Ab
