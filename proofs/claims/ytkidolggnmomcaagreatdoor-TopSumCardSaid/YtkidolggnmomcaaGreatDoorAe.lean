/- Values with names in them; contracts; checks of types; the forms of the statement. -/
import Derived.Test.YtkidolggnmomcaaGreatDoorAa
import Derived.Test.YtkidolggnmomcaaGreatDoorAc
import Derived.Test.YtkidolggnmomcaaGreatDoorAd
set_option linter.unusedVariables false
set_option linter.unusedSimpArgs false
/- Numbers known by a name: an affine term over base numbers, as a list: the constant, then a factor for each base number. No proof stands here. -/
namespace Go.Ab

def isZ : Int → Bool
  | .ofNat 0 => true
  | _ => false
def allZ : List Int → Bool
  | [] => true
  | x :: xs => isZ x && allZ xs
def addE : List Int → List Int → List Int
  | [], b => b
  | a, [] => a
  | x :: xs, y :: ys => (x + y) :: addE xs ys
def scaleE (c : Int) : List Int → List Int
  | [] => []
  | x :: xs => (c * x) :: scaleE c xs
/-- a row of at most one limb -/
def oneRow (n : Nat) : PV := match n with
  | 0 => .nils
  | n + 1 => .vsl [.int .u32 (Int.ofNat (Nat.succ n))] 1 none
def conR (c : Int) : PV := match c with
  | .ofNat n => .agg [.bool false, oneRow n, .vsl [.int .u32 1] 1 none]
  | .negSucc n => .agg [.bool true, oneRow (Nat.succ n), .vsl [.int .u32 1] 1 none]
def symR (e : List Int) : PV := .agg [.sym 0 e, .sym 1 e, .sym 2 e]
/-- a number as it was handed in -/
def rawR (e : List Int) : PV := .agg [.sym 3 e, .sym 4 e, .sym 5 e]
def smallI (c : Int) : Bool := match c with
  | .ofNat n => Nat.ble n 1000
  | .negSucc n => Nat.ble n 1000
def mkR (e : List Int) : Option PV := match e with
  | [] => some (conR 0)
  | c :: r => bif allZ r then (bif smallI c then some (conR c) else none) else some (symR e)
/-- few base numbers, small factors -/
def modE : List Int → Nat → Bool
  | [], _ => true
  | _ :: _, 0 => false
  | x :: r, k + 1 => smallI x && modE r k
def natC : PV → Option Nat
  | .int k i => match k with
    | .u32 => (match i with
      | .ofNat n => bif Nat.ble n 1001 && !Nat.beq n 0 then some n else none
      | .negSucc _ => none)
    | _ => none
  | _ => none
/-- a row of at most one limb -/
def natR : PV → Option Nat
  | .nils => some 0
  | .vsl cs n _ => match cs with
    | [] => bif Nat.beq n 0 then some 0 else none
    | x :: r => (match r with
      | [] => bif Nat.beq n 1 then natC x else none
      | _ :: _ => none)
  | _ => none
def isOne (p : PV) : Bool := match natR p with
  | some n => Nat.beq n 1
  | none => false
def numB (s : Bool) (N D : PV) : Option (List Int) := bif isOne D then (match natR N with
    | some n => match n with
      | 0 => bif s then none else some [.ofNat 0]
      | m + 1 => some [bif s then .negSucc m else .ofNat (Nat.succ m)]
    | none => none) else none
def numS (c : Nat) (e : List Int) (N D : PV) : Option (List Int) := match N with
  | .sym c' e' => match D with
    | .sym c'' e'' => bif eqE e e' && (eqE e e'' && modE e 12) then (bif Nat.beq c 0 && (Nat.beq c' 1 && Nat.beq c'' 2) then some e else bif Nat.beq c 3 && (Nat.beq c' 4 && Nat.beq c'' 5) then some e else none) else none
    | _ => none
  | _ => none
def num3 (x N D : PV) : Option (List Int) := match x with
  | .bool s => numB s N D
  | .sym c e => numS c e N D
  | _ => none
def numL : List PV → Option (List Int)
  | [x, N, D] => num3 x N D
  | _ => none
def numOf : PV → Option (List Int)
  | .agg l => numL l
  | _ => none
/-- at most so many base numbers, each once -/
def fewE : List Int → Nat → Bool
  | [], _ => true
  | .ofNat 0 :: r, k => fewE r k
  | .ofNat 1 :: r, k + 1 => fewE r k
  | .negSucc 0 :: r, k + 1 => fewE r k
  | _, _ => false
def fewN (e : List Int) : Bool := match e with
  | [] => true
  | c :: r => smallI c && fewE r 7
def cNorm (l : List PV) : Option PV := match l with
  | [a] => match numOf a with
    | some e => mkR e
    | none => none
  | _ => none
def cNeg (l : List PV) : Option PV := match l with
  | [a] => match numOf a with
    | some e => mkR (scaleE (-1) e)
    | none => none
  | _ => none
def cAdd (l : List PV) : Option PV := match l with
  | [a, b] => match numOf a with
    | some e => match numOf b with
      | some e' => mkR (addE e e')
      | none => none
    | none => none
  | _ => none
def mulE (e e' : List Int) : Option (List Int) := match e with
  | [c] => some (scaleE c e')
  | e => match e' with
    | [c] => some (scaleE c e)
    | _ => none
def cMul (l : List PV) : Option PV := match l with
  | [a, b] => match numOf a with
    | some e => match numOf b with
      | some e' => match mulE e e' with
        | some x => mkR x
        | none => none
      | none => none
    | none => none
  | _ => none
/-- by 1 or -1 -/
def cDiv (l : List PV) : Option PV := match l with
  | [a, b] => match numOf a with
    | some e => match numOf b with
      | some [.ofNat 1] => match mkR e with
        | some x => some (.tup [x, .bool true])
        | none => none
      | some [.negSucc 0] => match mkR (scaleE (-1) e) with
        | some x => some (.tup [x, .bool true])
        | none => none
      | _ => none
    | none => none
  | _ => none
def cZero (l : List PV) : Option PV := match l with
  | [a] => match numOf a with
    | some [c] => some (.bool (isZ c))
    | some e => bif allZ e then some (.bool true) else none
    | none => none
  | _ => none
def cIs (l : List PV) : Option PV := match l with
  | [a] => match numOf a with
    | some _ => some (.bool true)
    | none => none
  | _ => none
def cLarge (l : List PV) : Option PV := match l with
  | [a] => match numOf a with
    | some e => bif fewN e then some (.bool false) else none
    | none => none
  | _ => none
def cPrint (l : List PV) : Option PV := match l with
  | [a] => match numOf a with
    | some _ => some (.anyS 100000)
    | none => none
  | _ => none
def cYes (l : List PV) : Option PV := match l with
  | [.bool _] => some (.anyS 1)
  | [.sym 6 _] => some (.anyS 1)
  | _ => none
/-- the contracts of the numbers, by the functions' numbers -/
structure RatNo where
  norm : Nat
  neg : Nat
  add : Nat
  mul : Nat
  div : Nat
  zero : Nat
  is : Nat
  large : Nat
  print : Nat
  yes : Nat
def ratExt (k : RatNo) (f : Nat) : Option (List PV → Option PV) :=
  bif Nat.beq f k.norm then some cNorm else bif Nat.beq f k.neg then some cNeg else bif Nat.beq f k.add then some cAdd else bif Nat.beq f k.mul then some cMul
  else bif Nat.beq f k.div then some cDiv else bif Nat.beq f k.zero then some cZero else bif Nat.beq f k.is then some cIs else bif Nat.beq f k.large then some cLarge
  else bif Nat.beq f k.print then some cPrint else bif Nat.beq f k.yes then some cYes else none
end Go.Ab
/- Names of cells put in: a value with its names, and the value that they stand for; a run without a memory, for whatever the names stand. -/
namespace Go.Ab

mutual
/-- the names put in -/
def res (ρ : Nat → List Int → PV) : PV → PV
  | .sym k e => ρ k e
  | .vptr cs => .vptr (ress ρ cs)
  | .vsl cs n cp => .vsl (ress ρ cs) n cp
  | .clo f a b => .clo f (ress ρ a) (ress ρ b)
  | .ifc t x => .ifc t (res ρ x)
  | .agg cs => .agg (ress ρ cs)
  | .tup cs => .tup (ress ρ cs)
  | .int k n => .int k n
  | .bool b => .bool b
  | .str s => .str s
  | .anyS n => .anyS n
  | .nilp => .nilp
  | .ptr b g o => .ptr b g o
  | .nils => .nils
  | .msl b g o n z => .msl b g o n z
  | .nilm => .nilm
  | .map b => .map b
  | .nilf => .nilf
  | .nili => .nili
def ress (ρ : Nat → List Int → PV) : List PV → List PV
  | [] => []
  | x :: xs => res ρ x :: ress ρ xs
end
mutual
/-- no name in it -/
def nosym : PV → Bool
  | .sym .. => false
  | .vptr cs => nosyms cs
  | .vsl cs _ _ => nosyms cs
  | .clo _ a b => nosyms a && nosyms b
  | .ifc _ x => nosym x
  | .agg cs => nosyms cs
  | .tup cs => nosyms cs
  | _ => true
def nosyms : List PV → Bool
  | [] => true
  | x :: xs => nosym x && nosyms xs
end
mutual
/-- it does not look into the memory -/
def stiff : PV → Bool
  | .agg cs => stiffs cs
  | .tup cs => stiffs cs
  | .ifc _ x => stiff x
  | .int .. => true
  | .bool _ => true
  | .str _ => true
  | .anyS _ => true
  | .sym .. => true
  | .nilp => true
  | .nils => true
  | .vsl cs _ _ => stiffs cs
  | .nilm => true
  | .nilf => true
  | .nili => true
  | _ => false
def stiffs : List PV → Bool
  | [] => true
  | x :: xs => stiff x && stiffs xs
end

section
variable {P : Program} {c c' : Cx} {m m' : PM} {w w' : World} {ρ : Nat → List Int → PV}

/-- what the names stand for: plain values -/
def PlainR (ρ : Nat → List Int → PV) : Prop := ∀ k e, nosym (ρ k e) = true ∧ stiff (ρ k e) = true ∧ ((∃ b, ρ k e = .bool b) ∨ ρ k e = .nils ∨ ∃ l n cp, ρ k e = .vsl l n cp)

theorem and_tt {a b : Bool} (h : (a && b) = true) : a = true ∧ b = true := by
  cases a <;> cases b <;> simp_all

mutual
/-- a value without names that does not look into the memory is carried on, whatever the names are -/
theorem Rep.move (h : ∀ B, c.S B → c'.S B ∧ w'.heap[B]? = w.heap[B]?) : ∀ {p : PV} {v : Value}, Rep c m w p v → nosym p = true → stiff p = true → Rep c' m' w' p v
  | _, _, .int k n, _, _ => .int k n
  | _, _, .bool b, _, _ => .bool b
  | _, _, .str l, _, _ => .str l
  | _, _, .anyS n s hs, _, _ => .anyS n s hs
  | _, _, .nilp, _, _ => .nilp
  | _, _, .nils, _, _ => .nils
  | _, _, .vsl0 len cp a k hc hl, _, _ => .vsl0 len cp a k hc hl
  | _, _, .vsl cs vs B o len cp k hf hS hat hr hc hl, hn, hs => .vsl cs vs B o len cp k hf (h B hS).1 (hat.mono (h B hS).2) (hr.move h hn hs) hc hl
  | _, _, .nilm, _, _ => .nilm
  | _, _, .nilf, _, _ => .nilf
  | _, _, .nili, _, _ => .nili
  | _, _, .ifc t x v hx, hn, hs => .ifc t x v (hx.move h hn hs)
  | _, _, .agg cs vs hx, hn, hs => .agg cs vs (hx.move h hn hs)
  | _, _, .tup cs vs hx, hn, hs => .tup cs vs (hx.move h hn hs)
theorem Reps.move (h : ∀ B, c.S B → c'.S B ∧ w'.heap[B]? = w.heap[B]?) : ∀ {p : List PV} {v : List Value}, Reps c m w p v → nosyms p = true → stiffs p = true → Reps c' m' w' p v
  | _, _, .nil, _, _ => .nil
  | _, _, .cons x v xs vs hx hs, hn, hf => .cons x v xs vs (hx.move h (and_tt hn).1 (and_tt hf).1) (hs.move h (and_tt hn).2 (and_tt hf).2)
end

theorem flat_res (hρ : ∀ k e, flat (ρ k e) = true) : ∀ (p : PV), flat (res ρ p) = flat p
  | .sym k e => hρ k e
  | .vptr _ => rfl
  | .vsl .. => rfl
  | .clo .. => rfl
  | .ifc .. => rfl
  | .agg _ => rfl
  | .tup _ => rfl
  | .int .. => rfl
  | .bool _ => rfl
  | .str _ => rfl
  | .anyS _ => rfl
  | .nilp => rfl
  | .ptr .. => rfl
  | .nils => rfl
  | .msl .. => rfl
  | .nilm => rfl
  | .map _ => rfl
  | .nilf => rfl
  | .nili => rfl
theorem flats_res (hρ : ∀ k e, flat (ρ k e) = true) : ∀ (l : List PV), flats (ress ρ l) = flats l
  | [] => rfl
  | x :: xs => by simp only [ress, flats, flat_res hρ x, flats_res hρ xs]
theorem hflat (c : Cx) (k : Nat) (e : List Int) : flat (c.ρ k e) = true := by
  rcases c.hρ k e with ⟨b, hb⟩ | hb | ⟨l, n, cp, hb⟩ <;> rw [hb] <;> rfl

mutual
/-- the names may be put in -/
theorem Rep.res (h0 : ∀ k e, flat (c.ρ k e) = true) : ∀ {p : PV} {v : Value}, Rep c m w p v → Rep c m w (res c.ρ p) v
  | _, _, .int k n => .int k n
  | _, _, .bool b => .bool b
  | _, _, .str l => .str l
  | _, _, .anyS n s hs => .anyS n s hs
  | _, _, .sym _ _ _ h => h
  | _, _, .nilp => .nilp
  | _, _, .ptr b g off blk a hL hb hg ha => .ptr b g off blk a hL hb hg ha
  | _, _, .vptr cs vs B o hf hS hat hr => .vptr _ vs B o (by rw [flats_res h0]; exact hf) hS hat (hr.res h0)
  | _, _, .nils => .nils
  | _, _, .vsl0 len cp a k hc hl => .vsl0 len cp a k hc hl
  | _, _, .vsl cs vs B o len cp k hf hS hat hr hc hl => .vsl _ vs B o len cp k (by rw [flats_res h0]; exact hf) hS hat (hr.res h0) hc hl
  | _, _, .msl b g off len sz blk a k hL hb hg hl hk ha => .msl b g off len sz blk a k hL hb hg hl hk ha
  | _, _, .nilm => .nilm
  | _, _, .map b es hL hb => .map b es hL hb
  | _, _, .clo f a b as bs ha hb => .clo f _ _ as bs (ha.res h0) (hb.res h0)
  | _, _, .nilf => .nilf
  | _, _, .nili => .nili
  | _, _, .ifc t x v h => .ifc t _ v (h.res h0)
  | _, _, .agg cs vs h => .agg _ vs (h.res h0)
  | _, _, .tup cs vs h => .tup _ vs (h.res h0)
theorem Reps.res (h0 : ∀ k e, flat (c.ρ k e) = true) : ∀ {p : List PV} {v : List Value}, Reps c m w p v → Reps c m w (ress c.ρ p) v
  | _, _, .nil => .nil
  | _, _, .cons x v xs vs hx hs => .cons _ v _ vs (hx.res h0) (hs.res h0)
end

mutual
/-- and taken out again, by others that stand for the same -/
theorem Rep.unres (h0 : PlainR ρ) (hρ : c'.ρ = ρ) (h : ∀ B, c.S B → c'.S B ∧ w'.heap[B]? = w.heap[B]?) : ∀ (p : PV) {v : Value}, stiff p = true → Rep c m w (Go.Ab.res ρ p) v → nosym (Go.Ab.res ρ p) = true → Rep c' m' w' p v
  | .sym k e, v, _, hr, _ => .sym k e v (by rw [hρ]; exact hr.move h (h0 k e).1 (h0 k e).2.1)
  | .agg cs, v, hs, hr, hn => by
    cases hr with
    | agg _ vs hr => exact .agg _ _ (Reps.unres h0 hρ h cs hs hr hn)
  | .tup cs, v, hs, hr, hn => by
    cases hr with
    | tup _ vs hr => exact .tup _ _ (Reps.unres h0 hρ h cs hs hr hn)
  | .ifc t x, v, hs, hr, hn => by
    cases hr with
    | ifc _ _ u hr => exact .ifc _ _ _ (Rep.unres h0 hρ h x hs hr hn)
  | .vsl [] n cp, v, hs, hr, hn => by
    cases hr with
    | vsl0 _ _ a k hc hl => exact .vsl0 _ _ _ _ hc hl
    | vsl _ vs B o _ _ k hf hS hat hr hc hl => exact .vsl _ vs B o _ _ k rfl (h B hS).1 (hat.mono (h B hS).2) (by cases hr; exact .nil) hc hl
  | .vsl (x :: xs) n cp, v, hs, hr, hn => by
    cases hr with
    | vsl _ vs B o _ _ k hf hS hat hr hc hl =>
      have hn' : nosyms (Go.Ab.ress ρ (x :: xs)) = true := hn
      refine .vsl _ vs B o _ _ k ?_ (h B hS).1 (hat.mono (h B hS).2) ?_ hc hl
      · have hf' : flats (Go.Ab.ress ρ (x :: xs)) = true := hf
        rw [flats_res (fun k e => by rcases (h0 k e).2.2 with ⟨b, hb⟩ | hb | ⟨l, n, cp, hb⟩ <;> rw [hb] <;> rfl)] at hf'
        exact hf'
      · cases hr with
        | cons _ v1 _ vs1 hx hxs => exact .cons _ _ _ _ (Rep.unres h0 hρ h x (and_tt hs).1 hx (and_tt hn').1) (Reps.unres h0 hρ h xs (and_tt hs).2 hxs (and_tt hn').2)
  | .int k n, v, _, hr, _ => by cases hr; exact .int _ _
  | .bool _, v, _, hr, _ => by cases hr; exact .bool _
  | .str _, v, _, hr, _ => by cases hr; exact .str _
  | .anyS _, v, _, hr, _ => by cases hr with | anyS _ s hs => exact .anyS _ s hs
  | .nilp, v, _, hr, _ => by cases hr; exact .nilp
  | .nils, v, _, hr, _ => by cases hr; exact .nils
  | .nilm, v, _, hr, _ => by cases hr; exact .nilm
  | .nilf, v, _, hr, _ => by cases hr; exact .nilf
  | .nili, v, _, hr, _ => by cases hr; exact .nili
  | .vptr _, _, h, _, _ => by cases h
  | .clo .., _, h, _, _ => by cases h
  | .ptr .., _, h, _, _ => by cases h
  | .msl .., _, h, _, _ => by cases h
  | .map _, _, h, _, _ => by cases h
theorem Reps.unres (h0 : PlainR ρ) (hρ : c'.ρ = ρ) (h : ∀ B, c.S B → c'.S B ∧ w'.heap[B]? = w.heap[B]?) : ∀ (p : List PV) {v : List Value}, stiffs p = true → Reps c m w (Go.Ab.ress ρ p) v → nosyms (Go.Ab.ress ρ p) = true → Reps c' m' w' p v
  | [], v, _, hr, _ => by cases hr; exact .nil
  | x :: xs, v, hs, hr, hn => by
    cases hr with
    | cons _ v1 _ vs1 hx hxs => exact .cons _ _ _ _ (Rep.unres h0 hρ h x (and_tt hs).1 hx (and_tt hn).1) (Reps.unres h0 hρ h xs (and_tt hs).2 hxs (and_tt hn).2)
end
mutual
theorem nosym_res (h0 : PlainR ρ) : ∀ (p : PV), stiff p = true → nosym (res ρ p) = true ∧ stiff (res ρ p) = true
  | .sym k e, _ => ⟨(h0 k e).1, (h0 k e).2.1⟩
  | .agg cs, h => nosyms_res h0 cs h
  | .tup cs, h => nosyms_res h0 cs h
  | .ifc t x, h => nosym_res h0 x h
  | .vsl cs _ _, h => nosyms_res h0 cs h
  | .int .., _ => ⟨rfl, rfl⟩
  | .bool _, _ => ⟨rfl, rfl⟩
  | .str _, _ => ⟨rfl, rfl⟩
  | .anyS _, _ => ⟨rfl, rfl⟩
  | .nilp, _ => ⟨rfl, rfl⟩
  | .nils, _ => ⟨rfl, rfl⟩
  | .nilm, _ => ⟨rfl, rfl⟩
  | .nilf, _ => ⟨rfl, rfl⟩
  | .nili, _ => ⟨rfl, rfl⟩
  | .vptr _, h => by cases h
  | .clo .., h => by cases h
  | .ptr .., h => by cases h
  | .msl .., h => by cases h
  | .map _, h => by cases h
theorem nosyms_res (h0 : PlainR ρ) : ∀ (p : List PV), stiffs p = true → nosyms (ress ρ p) = true ∧ stiffs (ress ρ p) = true
  | [], _ => ⟨rfl, rfl⟩
  | x :: xs, h => by
    obtain ⟨a1, a2⟩ := nosym_res h0 x (and_tt h).1
    obtain ⟨b1, b2⟩ := nosyms_res h0 xs (and_tt h).2
    simp only [ress, nosyms, stiffs, a1, a2, b1, b2, Bool.and_self, and_self]
end

/-- a run without a memory, the names standing for whatever they may -/
theorem lift {E : Env} {K : (Nat → List Int → PV) → Prop} (hok : EnvOk P K E) (h0 : PlainR ρ) (hK : K ρ) {N n f : Nat} {l : List PV} {r : PV} {m1 : PM} (hrun : evCall E N n f l .empty = some (r, m1)) (hl : stiffs l = true) (hr : stiff r = true)
    {vs : List Value} (hM : MemRel c m w) (hvs : Reps c m w (ress ρ l) vs) : CallDoes P f vs w fun v w' => ∃ c', Ext c m w c' m w' ∧ MemRel c' m w' ∧ Rep c' m w' (res ρ r) v := by
  let ci : Cx := ⟨ρ, fun k e => (h0 k e).2.2, c.β, c.S, fun _ => False⟩
  have hMi : MemRel ci PM.empty w := ⟨fun b _ => PM.get_empty b, fun b hb => hb.elim, fun b _ hb => hb.elim, fun b b' hb => hb.elim, hM.Slt, fun b hb => hb.elim⟩
  have hri : Reps ci PM.empty w l vs := Reps.unres (c := c) (c' := ci) (w := w) h0 rfl (fun B (hB : c.S B) => ⟨(hB : ci.S B), rfl⟩) l hl hvs (nosyms_res h0 l hl).1
  refine (evCall_ok hok N n f l _ _ _ hrun ci w vs hK hMi hri).mono ?_
  rintro v w' ⟨c2, hX, hM2, hv⟩
  have hold : ∀ B, B < w.heap.size → w'.heap[B]? = w.heap[B]? := fun B hB => hX.old B hB fun b hb => hb.elim
  have hS2 : ∀ B, c2.S B → c.S B ∨ w.heap.size ≤ B := fun B hB => by
    rcases hX.S2 B hB with h | h | ⟨b, hb, _⟩
    · exact .inl h
    · exact .inr h
    · exact hb.elim
  let cf : Cx := { c with S := c2.S }
  have hE : Ext c m w cf m w' := {
    size := hX.size
    old := fun B hB _ => hold B hB
    rho := rfl
    S1 := fun B hB => hX.S1 B hB
    S2 := fun B hB => (hS2 B hB).elim .inl fun h => .inr (.inl h)
    L1 := fun _ h => h
    L2 := fun _ h => .inl h
    blk := fun _ x _ h => ⟨x, h, Blk.le_refl x, fun _ => rfl⟩
    unl := fun _ _ _ => rfl
    next := Nat.le_refl _
    mut' := fun b h hm => .inr ⟨b, h, hm, rfl⟩
    room := fun B arr et fz h => ⟨arr, fz, by rw [hold B (Array.getElem?_eq_some_iff.1 h).1]; exact h, rfl⟩
    os := hX.os }
  have hC := hE.carry hM
  have hMf : MemRel cf m w' := ⟨hM.fresh, hM.dom, fun b x hL hx => (hM.blk b x hL hx).carry hC rfl (hold _ (Mut.lt hM hL)), hM.inj, hM2.Slt, fun b hL hmu hS => by
    rcases hS2 _ hS with h | h
    · exact hM.Smut b hL hmu h
    · have := Mut.lt hM hL
      have e : cf.β b = c.β b := rfl
      rw [e] at h; omega⟩
  refine ⟨cf, hE, hMf, ?_⟩
  have h1 := hv.res (hflat c2)
  have hrho : c2.ρ = ρ := hX.rho
  rw [hrho] at h1
  obtain ⟨n1, n2⟩ := nosym_res h0 r hr
  exact Rep.move (c := c2) (c' := cf) (w := w') (fun B (hB : c2.S B) => ⟨(hB : cf.S B), rfl⟩) h1 n1 n2
end
end Go.Ab
/- A run in a memory of one variable, for whatever the names stand, in any memory that holds the variable. -/
namespace Go.Ab
section
variable {P : Program} {c : Cx} {m : PM} {w : World} {ρ : Nat → List Int → PV}

def mem1 (cs : List PV) (et : Nat) : PM := PM.empty.new (.cells cs 0 false et)
theorem mem1_get {cs : List PV} {et : Nat} (k : Nat) : (mem1 cs et).get k = if 0 = k then some (.cells cs 0 false et) else none := by
  unfold mem1
  rw [PM.get_new]
  rfl

theorem liftM {E : Env} {K : (Nat → List Int → PV) → Prop} (hok : EnvOk P K E) (h0 : PlainR ρ) (hK : K ρ) {N n f et b g : Nat} {cs0 cs1 l : List PV} {r0 r : PV} {m0 m1 : PM} (hrun : evCall E N n f (.ptr 0 0 0 :: l) (mem1 cs0 et) = some (r0, m0)) (hre : reify 12 m0 r0 = some (r, m1)) (hm1 : m1.get 0 = some (.cells cs1 0 false et))
    (hl : stiffs l = true) (hr : stiff r = true) (hc0 : stiffs cs0 = true) (hc1 : stiffs cs1 = true) {vs : List Value} (hb : m.get b = some (.cells (ress ρ cs0) g false et)) (hM : MemRel c m w) (hvs : Reps c m w (.ptr b g 0 :: ress ρ l) vs) :
    CallDoes P f vs w fun v w' => ∃ c', Ext c m w c' (m.upd b (.cells (ress ρ cs1) g false et)) w' ∧ MemRel c' (m.upd b (.cells (ress ρ cs1) g false et)) w' ∧ Rep c' (m.upd b (.cells (ress ρ cs1) g false et)) w' (res ρ r) v := by
  obtain ⟨v0, vs', rfl, hp, hvs'⟩ : ∃ v0 vs', vs = v0 :: vs' ∧ Rep c m w (.ptr b g 0) v0 ∧ Reps c m w (ress ρ l) vs' := by
    cases hvs with
    | cons _ v0 _ vs' h1 h2 => exact ⟨v0, vs', rfl, h1, h2⟩
  obtain ⟨hL, ad, rfl, had⟩ : c.L b ∧ ∃ ad, v0 = .pointer (some ad) ∧ ad = ⟨c.β b, 0, none⟩ := by
    cases hp with
    | ptr _ _ _ blk a hL hb' hg ha =>
      rw [hb] at hb'; cases hb'
      exact ⟨hL, a, rfl, ha rfl⟩
  subst had
  have hmb : Mut m b := ⟨_, hb, rfl⟩
  obtain ⟨arr, fz, us, a1, a2, a3, a4, _⟩ := hM.blk b _ hL hb
  let ci : Cx := ⟨ρ, fun k e => (h0 k e).2.2, fun _ => c.β b, c.S, fun k => k = 0⟩
  have hget : ∀ k x, (mem1 cs0 et).get k = some x → k = 0 ∧ x = .cells cs0 0 false et := fun k x hx => by
    rw [mem1_get] at hx
    split at hx
    · rename_i hk
      cases hx
      exact ⟨hk.symm, rfl⟩
    · cases hx
  have hst : ∀ B, c.S B → ci.S B ∧ w.heap[B]? = w.heap[B]? := fun B hB => ⟨hB, rfl⟩
  have hMi : MemRel ci (mem1 cs0 et) w := {
    fresh := fun k hk => by
      rw [mem1_get]
      have hk' : 1 ≤ k := hk
      exact if_neg (by omega)
    dom := fun k hk => by
      have hk' : k = 0 := hk
      subst hk'
      exact ⟨_, by rw [mem1_get]; exact if_pos rfl⟩
    blk := fun k x hk hx => by
      obtain ⟨rfl, rfl⟩ := hget k x hx
      exact ⟨arr, fz, us, a1, Reps.unres (c := c) (c' := ci) (w := w) h0 rfl hst cs0 hc0 a2 (nosyms_res h0 cs0 hc0).1, a3, a4, fun h => by cases h⟩
    inj := fun k k' hk hk' hne => absurd ((hk : k = 0).trans (hk' : k' = 0).symm) hne
    Slt := hM.Slt
    Smut := fun k hk hmu => hM.Smut b hL hmb }
  have hri : Reps ci (mem1 cs0 et) w (.ptr 0 0 0 :: l) (.pointer (some ⟨c.β b, 0, none⟩) :: vs') := by
    refine .cons _ _ _ _ (.ptr 0 0 0 (.cells cs0 0 false et) _ rfl (by rw [mem1_get]; exact if_pos rfl) (Nat.le_refl _) (fun _ => rfl)) ?_
    exact Reps.unres (c := c) (c' := ci) (w := w) h0 rfl hst l hl hvs' (nosyms_res h0 l hl).1
  refine (evCall_ok hok N n f _ _ _ _ hrun ci w _ hK hMi hri).mono ?_
  rintro v w' ⟨c1, hX1, hM1, hv1⟩
  obtain ⟨c2, hX2, hM2, hv, _⟩ := reify_sound 12 hre hM1 hv1
  have hX := hX1.trans hMi hX2
  have hL2 : c2.L 0 := hX.L1 0 rfl
  have hβ : c2.β 0 = c.β b := by
    obtain ⟨y, hy, _, h3⟩ := hX.blk 0 (.cells cs0 0 false et) rfl (by rw [mem1_get]; exact if_pos rfl)
    rw [hm1] at hy; cases hy
    exact h3 rfl
  have hnS : ¬ c2.S (c.β b) := by
    rw [← hβ]
    exact hM2.Smut 0 hL2 ⟨_, hm1, rfl⟩
  have hS2 : ∀ B, c2.S B → c.S B ∨ w.heap.size ≤ B := fun B hB => by
    rcases hX.S2 B hB with h | h | ⟨k, hk, _, he⟩
    · exact .inl h
    · exact .inr h
    · exact absurd (show c2.S (c.β b) from (show c.β b = B from he) ▸ hB) hnS
  have hold : ∀ B, B < w.heap.size → c.β b ≠ B → w'.heap[B]? = w.heap[B]? := fun B hB hne => hX.old B hB fun k hk he => absurd (show c.β b = B from he) hne
  let cf : Cx := { c with S := c2.S }
  have hgu : ∀ k, (m.upd b (.cells (ress ρ cs1) g false et)).get k = if b = k then some (.cells (ress ρ cs1) g false et) else m.get k := fun k => PM.get_upd m b k _
  have hmu : ∀ k, Mut (m.upd b (.cells (ress ρ cs1) g false et)) k → Mut m k := by
    rintro k ⟨x, h1, h2⟩
    rw [hgu] at h1
    split at h1
    · rename_i e; subst e; exact hmb
    · exact ⟨x, h1, h2⟩
  have hE : Ext c m w cf (m.upd b (.cells (ress ρ cs1) g false et)) w' := {
    size := hX.size
    old := fun B hB hn => hold B hB fun e => hn b hL e hmb
    rho := rfl
    S1 := fun B hB => hX.S1 B hB
    S2 := fun B hB => (hS2 B hB).elim .inl fun h => .inr (.inl h)
    L1 := fun _ h => h
    L2 := fun _ h => .inl h
    blk := fun k x hk hx => by
      by_cases e : b = k
      · subst e
        rw [hb] at hx; cases hx
        exact ⟨.cells (ress ρ cs1) g false et, by rw [hgu, if_pos rfl], ⟨Nat.le_refl _, rfl⟩, fun _ => rfl⟩
      · exact ⟨x, by rw [hgu, if_neg e]; exact hx, Blk.le_refl x, fun _ => rfl⟩
    unl := fun k hk _ => by
      rw [hgu, if_neg (fun e => by subst e; exact hk hL)]
    next := Nat.le_refl _
    mut' := fun k hk h => .inr ⟨k, hk, hmu k h, rfl⟩
    room := fun B arr et fz h => hX.room B arr et fz h
    os := hX.os }
  have hC := hE.carry hM
  have hrho : c2.ρ = ρ := hX.rho
  have mv : ∀ {p : PV} {u : Value}, stiff p = true → Rep c2 m1 w' p u → Rep cf (m.upd b (.cells (ress ρ cs1) g false et)) w' (res ρ p) u := fun {p u} hs hu => by
    have h1 := hu.res (hflat c2)
    rw [hrho] at h1
    obtain ⟨n1, n2⟩ := nosym_res h0 p hs
    exact Rep.move (c := c2) (c' := cf) (w := w') (fun B (hB : c2.S B) => ⟨(hB : cf.S B), rfl⟩) h1 n1 n2
  have mvs : ∀ {p : List PV} {u : List Value}, stiffs p = true → Reps c2 m1 w' p u → Reps cf (m.upd b (.cells (ress ρ cs1) g false et)) w' (ress ρ p) u := fun {p u} hs hu => by
    have h1 := hu.res (hflat c2)
    rw [hrho] at h1
    obtain ⟨n1, n2⟩ := nosyms_res h0 p hs
    exact Reps.move (c := c2) (c' := cf) (w := w') (fun B (hB : c2.S B) => ⟨(hB : cf.S B), rfl⟩) h1 n1 n2
  have hMf : MemRel cf (m.upd b (.cells (ress ρ cs1) g false et)) w' := {
    fresh := fun k hk => by
      have hk' : m.next ≤ k := hk
      rw [hgu, if_neg (fun e => by have := L_lt hM hL; omega)]
      exact hM.fresh k hk'
    dom := fun k hk => by
      by_cases e : b = k
      · exact ⟨_, by rw [hgu, if_pos e]⟩
      · obtain ⟨x, hx⟩ := hM.dom k hk
        exact ⟨x, by rw [hgu, if_neg e]; exact hx⟩
    blk := fun k x hk hx => by
      by_cases e : b = k
      · subst e
        rw [hgu, if_pos rfl] at hx; cases hx
        obtain ⟨arr', fz', us', b1, b2, b3, b4, _⟩ := hM2.blk 0 _ hL2 hm1
        rw [hβ] at b1
        exact ⟨arr', fz', us', b1, mvs hc1 b2, b3, b4, fun h => by cases h⟩
      · rw [hgu, if_neg e] at hx
        exact (hM.blk k x hk hx).carry hC rfl (hold _ (Mut.lt hM hk) (hM.inj b k hL hk e hmb))
    inj := fun k k' h1 h2 h3 h4 => hM.inj k k' h1 h2 h3 (hmu k h4)
    Slt := hM2.Slt
    Smut := fun k hk h hS => by
      rcases hS2 _ hS with h1 | h1
      · exact hM.Smut k hk (hmu k h) h1
      · have := Mut.lt hM hk
        have e : cf.β k = c.β k := rfl
        rw [e] at h1; omega }
  exact ⟨cf, hE, hMf, mv hr hv⟩
end
end Go.Ab
/- Code of the model: a state of the interpreter ahead of it, and one behind it, piece by piece. -/
namespace Go.Ab
section
variable {P : Program} {c : Cx} {m : PM} {w : World}
/-- how code ends: only what the state stands for -/
def Post0 (c : Cx) (m : PM) (w : World) (Q : Ex → St → Prop) : Exit → Act → World → Prop
  | .normal, a', w' => ∃ c' s', Ext c m w c' s'.me w' ∧ SRel c' s' a' w' ∧ Q .nrm s'
  | .ret, a', w' => ∃ c' s', Ext c m w c' s'.me w' ∧ SRel c' s' a' w' ∧ Q .ret s'
  | .exit id, a', w' => ∃ c' s', Ext c m w c' s'.me w' ∧ SRel c' s' a' w' ∧ Q (.exit id) s'
  | _, _, _ => False
theorem Post0.from {c0 : Cx} {m0 : PM} {w0 : World} {Q : Ex → St → Prop} (hM0 : MemRel c0 m0 w0) (hX : Ext c0 m0 w0 c m w) : ∀ e a w', Post0 c m w Q e a w' → Post0 c0 m0 w0 Q e a w'
  | .normal, _, _, ⟨c', s', h1, h2⟩ => ⟨c', s', hX.trans hM0 h1, h2⟩
  | .ret, _, _, ⟨c', s', h1, h2⟩ => ⟨c', s', hX.trans hM0 h1, h2⟩
  | .exit _, _, _, ⟨c', s', h1, h2⟩ => ⟨c', s', hX.trans hM0 h1, h2⟩
  | .panic _, _, _, h => h.elim
  | .goto _, _, _, h => h.elim
  | .outgrown, _, _, h => h.elim
theorem Post0.of {x : Ex} {s : St} {Q : Ex → St → Prop} (hq : Q x s) : ∀ e a w', Post P c m w x s e a w' → Post0 c m w Q e a w'
  | .normal, _, _, ⟨h, c', h1, h2⟩ => ⟨c', s, h1, h2, h ▸ hq⟩
  | .ret, _, _, ⟨h, c', h1, h2⟩ => ⟨c', s, h1, h2, h ▸ hq⟩
  | .exit _, _, _, ⟨h, c', h1, h2⟩ => ⟨c', s, h1, h2, h ▸ hq⟩
  | .panic _, _, _, h => h.elim
  | .goto _, _, _, h => h.elim
  | .outgrown, _, _, h => h.elim

/-- code, from a state of the interpreter to another one -/
structure MC (P : Program) (ρ : Nat → List Int → PV) (cd : Code) (s : St) (Q : Ex → St → Prop) : Prop where
  wp : ∀ (c : Cx) (a : Act) (w : World), c.ρ = ρ → SRel c s a w → cd.wp P (Post0 c s.me w Q) a w

variable {ρ : Nat → List Int → PV} {Q : Ex → St → Prop} {s : St}
theorem MC.mono {Q' : Ex → St → Prop} {cd : Code} (h : MC P ρ cd s Q) (hq : ∀ x s', Q x s' → Q' x s') : MC P ρ cd s Q' := ⟨fun c a w hρ hS => by
  refine wp_mono (h.wp c a w hρ hS) ?_
  intro e a' w' hp
  cases e
  case panic => exact hp.elim
  case goto => exact hp.elim
  case outgrown => exact hp.elim
  all_goals
    obtain ⟨c', s', h1, h3, h4⟩ := hp
    exact ⟨c', s', h1, h3, hq _ _ h4⟩⟩
def seqM (P : Program) (ρ : Nat → List Int → PV) (b : Code) (Q : Ex → St → Prop) : Ex → St → Prop
  | .nrm, s => MC P ρ b s Q
  | .ret, s => Q .ret s
  | .exit i, s => Q (.exit i) s
theorem MC_seq {a b : Code} (h : MC P ρ a s (seqM P ρ b Q)) : MC P ρ (.seq a b) s Q := ⟨fun c ac w hρ hS => by
  refine wp_seq (wp_mono (h.wp c ac w hρ hS) ?_)
  intro e a' w' hp
  cases e
  case panic => exact hp.elim
  case goto => exact hp.elim
  case outgrown => exact hp.elim
  case normal =>
    obtain ⟨c', s', h1, h3, h4⟩ := hp
    exact wp_mono (MC.wp h4 c' a' w' (h1.rho.trans hρ) h3) (Post0.from hS.mem h1)
  all_goals exact hp⟩
theorem MC_cond {x : Operand} {a b : Code} (v : Bool) (hc : condOf s.tm x = some v) (h1 : v = true → MC P ρ a s Q) (h2 : v = false → MC P ρ b s Q) : MC P ρ (.cond x a b) s Q := ⟨fun c ac w hρ hS => by
  unfold condOf at hc
  split at hc
  · rename_i y hb
    cases hc
    have hv := evo_sound hS hb
    cases v with
    | true =>
      refine wp_cond_true ?_ ((h1 rfl).wp c ac w hρ hS)
      generalize ac.eval x = u at hv
      cases hv; rfl
    | false =>
      refine wp_cond_false ?_ ((h2 rfl).wp c ac w hρ hS)
      generalize ac.eval x = u at hv
      cases hv; rfl
  · cases hc⟩
def blkM (id : Nat) (Q : Ex → St → Prop) : Ex → St → Prop
  | .exit i, s => if i = id then Q .nrm s else Q (.exit i) s
  | .ret, s => Q .ret s
  | .nrm, s => Q .nrm s
theorem MC_block {id : Nat} {a : Code} (h : MC P ρ a s (blkM id Q)) : MC P ρ (.block id a) s Q := ⟨fun c ac w hρ hS => by
  refine wp_block (wp_mono (h.wp c ac w hρ hS) ?_)
  intro e a' w' hp
  cases e
  case panic => exact hp.elim
  case goto => exact hp.elim
  case outgrown => exact hp.elim
  case exit i =>
    obtain ⟨c', s', h1, h3, h4⟩ := hp
    simp only [blkM] at h4
    simp only [Exit.inBlock]
    by_cases hi : i = id
    · rw [if_pos hi] at h4 ⊢
      exact ⟨c', s', h1, h3, h4⟩
    · rw [if_neg hi] at h4 ⊢
      exact ⟨c', s', h1, h3, h4⟩
  all_goals exact hp⟩
/-- a run of the interpreter -/
theorem MC_run {E : Env} {K : (Nat → List Int → PV) → Prop} (hok : EnvOk P K E) (hK : K ρ) {N n : Nat} {cd : Code} (hg : codeReg cd = true) {x : Ex} {s1 : St} (hrun : evCode E (evCall E N n) N cd s = some (x, s1)) (hq : Q x s1) : MC P ρ cd s Q := ⟨fun c a w hρ hS => by
  have hcall := evCall_ok hok N n
  refine wp_mono (evCode_sound hok.ty hcall (draw_ok hok.mixed hok.ty hcall (evCall_pure E N n)) N cd hg (show K c.ρ by rw [hρ]; exact hK) hS hrun) ?_
  exact Post0.of hq⟩
/-- what the logic on the interpreter shows -/
theorem MC_WC {E : Env} {K : (Nat → List Int → PV) → Prop} (hok : EnvOk P K E) (hK : K ρ) {cd : Code} (hg : codeReg cd = true) (h : WC E cd s Q) : MC P ρ cd s Q := by
  obtain ⟨x, s', ⟨k, h1⟩, h2⟩ := h
  exact MC_run hok hK hg (h1 k k (Nat.le_refl _) (Nat.le_refl _)) h2
/-- code, one piece behind the other -/
def seqs : List Code → Code → Code
  | [], c => c
  | a :: l, c => .seq a (seqs l c)
def runs (E : Env) (call : Nat → List PV → PM → Option (PV × PM)) (N : Nat) : List Code → St → Option St
  | [], s => some s
  | a :: l, s => match evCode E call N a s with
    | some (.nrm, s') => runs E call N l s'
    | _ => none
theorem MC_runs {E : Env} {K : (Nat → List Int → PV) → Prop} (hok : EnvOk P K E) (hK : K ρ) {N n : Nat} {b : Code} : ∀ {l : List Code} {s s1 : St}, (∀ a ∈ l, codeReg a = true) → runs E (evCall E N n) N l s = some s1 → MC P ρ b s1 Q → MC P ρ (seqs l b) s Q
  | [], s, s1, _, h, hb => by cases h; exact hb
  | a :: l, s, s1, hg, h, hb => by
    simp only [runs] at h
    split at h
    · rename_i s' hs'
      exact MC_seq (MC_run hok hK (hg a (by simp)) hs' (MC_runs hok hK (fun x hx => hg x (by simp [hx])) h hb))
    · cases h
end
end Go.Ab
/- What the interpreter is told of a type, looked up in the program: a check. -/
namespace Go.Ab

def ikEq (a b : IntKind) : Bool := decide (a = b)
def oneAll : List Value → Bool
  | [] => true
  | v :: vs => v.oneCell' && oneAll vs
def zeroB (P : Program) (t : Nat) : Option (List PV) → Bool
  | none => true
  | some l => match P.info? t with
    | some info => match info.zero with
      | some v => match ofVs v.cells.toList with
        | some l' => eqPVs l' l && (oneAll v.cells.toList && Nat.beq v.cells.size info.size)
        | none => false
      | none => false
    | none => false
def partB (P : Program) (t sz : Nat) (agg : Bool) : Bool := match P.info? t with
  | some info => match P.underlying t with
    | some d => Nat.beq info.size sz && (aggD d == agg)
    | none => false
  | none => false
def fieldsB (P : Program) : List Field → List FI → Bool
  | [], [] => true
  | f :: fs, i :: is => Nat.beq f.offset i.off && (partB P f.type i.sz i.isAgg && fieldsB P fs is)
  | _, _ => false
def isByte : TypeDesc → Bool
  | .int k => ikEq k .u8
  | _ => false
def kindB (P : Program) (d : TypeDesc) : TK → Bool
  | .int k => match d with
    | .int k' => ikEq k' k
    | _ => false
  | .bool => match d with
    | .bool => true
    | _ => false
  | .string => match d with
    | .string => true
    | _ => false
  | .unsafePointer => match d with
    | .unsafePointer => true
    | _ => false
  | .pointer e esz => match d with
    | .pointer e' => Nat.beq e' e && (match P.info? e with
      | some info => Nat.beq info.size esz
      | none => false)
    | _ => false
  | .slice e esz eb ez => match d with
    | .slice e' => Nat.beq e' e && (match P.info? e with
      | some info => match P.underlying e with
        | some d' => Nat.beq info.size esz && (Nat.beq info.bytes eb && (!isU8 ez || isByte d'))
        | none => false
      | none => false) && zeroB P e ez
    | _ => false
  | .array n esz ea => match d with
    | .array n' e => Nat.beq n' n && partB P e esz ea
    | _ => false
  | .map str ez => match d with
    | .map k e => (match P.underlying k with
      | some kd => match kd with
        | .string => str
        | .int _ => !str
        | _ => false
      | none => false) && (match ez with
      | none => true
      | some z => match P.info? e with
        | some info => match info.zero with
          | some v => match ofC v with
            | some z' => eqPV z' z
            | none => false
          | none => false
        | none => false)
    | _ => false
  | .struct fs => match d with
    | .struct fields => fieldsB P fields.toList fs
    | _ => false
  | .iface => match d with
    | .interface _ => true
    | _ => false
  | .func => match d with
    | .func .. => true
    | _ => false
  | .other => match d with
    | .interface _ => false
    | _ => true
def tyB (P : Program) (t : Nat) (i : TI) : Bool := match P.info? t with
  | some info => match P.underlying t with
    | some d => Nat.beq info.size i.sz && ((aggD d == i.agg) && (kindB P d i.kind && zeroB P t i.zero))
    | none => false
  | none => false

theorem and_tt' {a b : Bool} (h : (a && b) = true) : a = true ∧ b = true := by
  cases a <;> cases b <;> simp_all
theorem oneAll_mem : ∀ {l : List Value}, oneAll l = true → ∀ u ∈ l, u.oneCell' = true
  | [], _, _, h => by cases h
  | v :: vs, h, u, hu => by
    obtain ⟨h1, h2⟩ := and_tt' h
    rcases List.mem_cons.1 hu with rfl | hu
    · exact h1
    · exact oneAll_mem h2 u hu
theorem zeroB_ok {P : Program} {t : Nat} {z : Option (List PV)} (h : zeroB P t z = true) : ZeroOk P t z := by
  rintro l rfl
  simp only [zeroB] at h
  split at h
  · rename_i info hi
    split at h
    · rename_i v hv
      split at h
      · rename_i l' hl
        obtain ⟨h1, h2⟩ := and_tt' h
        obtain ⟨h3, h4⟩ := and_tt' h2
        cases eqPVs_eq h1
        exact ⟨info, v, hi, hv, fun c m w => ofVs_sound hl, oneAll_mem h3, beq_t h4⟩
      · cases h
    · cases h
  · cases h
theorem partB_ok {P : Program} {t sz : Nat} {agg : Bool} (h : partB P t sz agg = true) : PartOk P t sz agg := by
  unfold partB at h
  split at h
  · rename_i info hi
    split at h
    · rename_i d hd
      obtain ⟨h1, h2⟩ := and_tt' h
      exact ⟨info, d, hi, hd, beq_t h1, eq_of_beq h2⟩
    · cases h
  · cases h
theorem fieldsB_ok {P : Program} : ∀ {fs : List Field} {is : List FI}, fieldsB P fs is = true → fs.length = is.length ∧ ∀ (i : Nat) (fi : FI), is[i]? = some fi → ∃ f, fs[i]? = some f ∧ f.offset = fi.off ∧ PartOk P f.type fi.sz fi.isAgg
  | [], [], _ => ⟨rfl, fun i fi h => by simp at h⟩
  | f :: fs, x :: is, h => by
    obtain ⟨h1, h2⟩ := and_tt' h
    obtain ⟨h3, h4⟩ := and_tt' h2
    obtain ⟨h5, h6⟩ := fieldsB_ok h4
    refine ⟨by simp [h5], fun i fi hi => ?_⟩
    cases i with
    | zero =>
      simp only [List.getElem?_cons_zero, Option.some.injEq] at hi
      subst hi
      exact ⟨f, rfl, beq_t h1, partB_ok h3⟩
    | succ i =>
      simp only [List.getElem?_cons_succ] at hi ⊢
      exact h6 i fi hi
  | [], _ :: _, h => by cases h
  | _ :: _, [], h => by cases h
theorem isByte_eq {d : TypeDesc} (h : isByte d = true) : d = .int .u8 := by
  cases d <;> first | (cases h; done) | skip
  rename_i k
  have : k = .u8 := of_decide_eq_true h
  rw [this]
theorem kindB_ok {P : Program} {d : TypeDesc} {k : TK} (h : kindB P d k = true) : KindOk P d k := by
  cases k with
  | int k =>
    simp only [kindB] at h
    split at h
    · rename_i k'
      have : k' = k := of_decide_eq_true h
      rw [this]; rfl
    · cases h
  | bool => simp only [kindB] at h; split at h; rfl; cases h
  | string => simp only [kindB] at h; split at h; rfl; cases h
  | unsafePointer => simp only [kindB] at h; split at h; rfl; cases h
  | pointer e esz =>
    simp only [kindB] at h
    split at h
    · obtain ⟨h1, h2⟩ := and_tt' h
      cases beq_t h1
      split at h2
      · rename_i info hi
        exact ⟨info, rfl, hi, beq_t h2⟩
      · cases h2
    · cases h
  | slice e esz eb ez =>
    simp only [kindB] at h
    split at h
    · obtain ⟨h0, h3⟩ := and_tt' h
      obtain ⟨h1, h2⟩ := and_tt' h0
      cases beq_t h1
      split at h2
      · rename_i info hi
        split at h2
        · rename_i d' hd
          obtain ⟨h4, h5⟩ := and_tt' h2
          obtain ⟨h6, h7⟩ := and_tt' h5
          refine ⟨rfl, ⟨info, d', hi, hd, beq_t h4, beq_t h6, fun hu => ?_⟩, zeroB_ok h3⟩
          rw [hu] at h7
          exact isByte_eq h7
        · cases h2
      · cases h2
    · cases h
  | array n esz ea =>
    simp only [kindB] at h
    split at h
    · obtain ⟨h1, h2⟩ := and_tt' h
      cases beq_t h1
      exact ⟨_, rfl, partB_ok h2⟩
    · cases h
  | map str ez =>
    simp only [kindB] at h
    split at h
    · rename_i k e
      obtain ⟨h1, h2⟩ := and_tt' h
      split at h1
      · rename_i kd hkd
        have hk : (str = true → kd = .string) ∧ (str = false → ∃ kk, kd = .int kk) := by
          split at h1
          · subst h1
            exact ⟨fun _ => rfl, fun h => by cases h⟩
          · rename_i kk
            cases str with
            | true => cases h1
            | false => exact ⟨fun h => (by cases h), fun _ => ⟨kk, rfl⟩⟩
          · cases h1
        refine ⟨k, e, kd, rfl, hkd, hk.1, hk.2, ?_⟩
        rintro z rfl
        simp only at h2
        split at h2
        · rename_i info hi
          split at h2
          · rename_i v hv
            split at h2
            · rename_i z' hz
              cases eqPV_eq h2
              exact ⟨info, v, hi, hv, fun c m w => ofC_sound hz⟩
            · cases h2
          · cases h2
        · cases h2
      · cases h1
    · cases h
  | struct fs =>
    simp only [kindB] at h
    split at h
    · rename_i fields
      obtain ⟨h1, h2⟩ := fieldsB_ok h
      refine ⟨fields, rfl, by simpa using h1, fun i fi hi => ?_⟩
      obtain ⟨f, h3, h4⟩ := h2 i fi hi
      exact ⟨f, by simpa using h3, h4⟩
    · cases h
  | iface => simp only [kindB] at h; split at h; exact ⟨_, rfl⟩; cases h
  | func => simp only [kindB] at h; split at h; exact ⟨_, _, _, rfl⟩; cases h
  | other =>
    rintro ms rfl
    cases h
theorem tyB_ok {P : Program} {t : Nat} {i : TI} (h : tyB P t i = true) : TyOk P t i := by
  unfold tyB at h
  split at h
  · rename_i info hi
    split at h
    · rename_i d hd
      obtain ⟨h1, h2⟩ := and_tt' h
      obtain ⟨h3, h4⟩ := and_tt' h2
      obtain ⟨h5, h6⟩ := and_tt' h4
      exact ⟨⟨info, d, hi, hd, beq_t h1, eq_of_beq h3, kindB_ok h5⟩, zeroB_ok h6⟩
    · cases h
  · cases h

/-- all of a table of rows -/
def allI {α : Type} (f : Nat → α → Bool) : Nat → List α → Bool
  | _, [] => true
  | i, x :: r => f i x && allI f (Nat.succ i) r
def allT {α : Type} (f : Nat → α → Bool) : Nat → List (List α) → Bool
  | _, [] => true
  | c, l :: r => allI f (Nat.mul 25 c) l && allT f (Nat.succ c) r
theorem allI_get {α : Type} {f : Nat → α → Bool} : ∀ {l : List α} {i j : Nat} {x : α}, allI f i l = true → nthN l j = some x → f (i + j) x = true
  | [], _, _, _, _, h => by cases h
  | y :: l, i, 0, x, h, hx => by
    cases hx
    exact (and_tt' h).1
  | y :: l, i, j + 1, x, h, hx => by
    have := allI_get (and_tt' h).2 (show nthN l j = some x from hx)
    rw [show i + (j + 1) = Nat.succ i + j from by omega]
    exact this
theorem allT_get {α : Type} {f : Nat → α → Bool} : ∀ {l : List (List α)} {c j : Nat} {r : List α}, allT f c l = true → nthN l j = some r → allI f (25 * (c + j)) r = true
  | [], _, _, _, _, h => by cases h
  | y :: l, c, 0, x, h, hx => by
    cases hx
    exact (and_tt' h).1
  | y :: l, c, j + 1, x, h, hx => by
    have := allT_get (and_tt' h).2 (show nthN l j = some x from hx)
    rw [show c + (j + 1) = Nat.succ c + j from by omega]
    exact this
end Go.Ab
/- The forms of the statement, their documents, as values. No proof stands here. -/
namespace Go.Ab

def exName (c : Nat) : List PV := [.int .i64 2, .bool false, .nils, .nils, .str [UInt8.ofNat c], .nils]
def exAdd (l r : List PV) : List PV := [.int .i64 3, .bool false, .nils, .nils, .str [], .vsl (l ++ r) 2 (some 2)]
/-- the sum of so many names -/
def exSum : Nat → List PV
  | 0 => []
  | n + 1 => match n with
    | 0 => exName 97
    | n' + 1 => exAdd (exSum (n' + 1)) (exName (Nat.add 97 n))
def exNum : List PV := [.int .i64 1, .bool false, .vsl [.int .u32 100] 1 none, .vsl [.int .u32 1] 1 none, .str [], .nils]
def fieldsR : Nat → List PV
  | 0 => []
  | n + 1 => fieldsR n ++ [.str [UInt8.ofNat (Nat.add 97 n)], .int .i64 0, .bool false, .int .i64 0]
def namesR : Nat → List PV
  | 0 => []
  | n + 1 => namesR n ++ [.str [UInt8.ofNat (Nat.add 97 n)]]
def ruleR (n : Nat) : List PV := [.str [114], .int .i64 0, .str []] ++ (exSum n ++ exNum)
/-- the form, in memory of its own -/
def formCs (n : Nat) : List PV := [.nils, .nils, .vsl [.str [112], .str []] 1 none, .vsl (fieldsR n) n none, .vsl (ruleR n) 1 none, .nils]
def formR (n : Nat) : PV := .agg (formCs n)
/-- the i-th base number -/
def unitE : Nat → List Int
  | i => 0 :: go i
where go : Nat → List Int
  | 0 => [1]
  | i + 1 => 0 :: go i
/-- 100, less all but two of the base numbers (less the last one, too, if so) -/
def toldE (n t k : Nat) (v : Bool) : List Int := 100 :: go n 0
where go : Nat → Nat → List Int
  | 0, _ => bif v then [-1] else []
  | j + 1, i => (bif Nat.beq i t || Nat.beq i k then 0 else -1) :: go j (Nat.succ i)
def symC (e : List Int) : List PV := [.sym 0 e, .sym 1 e, .sym 2 e]
def rowR (f : Nat → List PV) : Nat → Nat → List PV
  | 0, _ => []
  | j + 1, i => f i ++ rowR f j (Nat.succ i)
/-- the values ahead of an edit: the t-th field is told -/
def valsR (n t : Nat) : List PV := rowR (fun i => symC (bif Nat.beq i t then toldE n t t false else unitE i)) n 0
def pinR : List PV := [.bool false, .bool false, .bool false, .vsl [] 0 (some 2), .vsl [.int .u32 1] 1 (some 2)]
def docCs (vals : List PV) (t : Nat) (fil : List PV) (n : Nat) : List PV := [.nils, .nils, .vsl vals n none, .vsl [.int .i64 (Int.ofNat t)] 1 none, .vsl (rowR (fun _ => pinR) n 0) n none, .vsl fil n none]
def filR (n : Nat) : List PV := rowR (fun i => [.sym 6 [Int.ofNat i]]) n 0
/-- which field is told when the k-th was edited -/
def toldBy (t k : Nat) : Nat := bif Nat.beq t k then (bif Nat.beq t 0 then 1 else 0) else t
/-- the values behind it: the k-th is the base number behind all others -/
def valsR2 (n t k : Nat) : List PV := rowR (fun i => symC (bif Nat.beq i k then unitE n else bif Nat.beq i (toldBy t k) then toldE n (toldBy t k) k true else unitE i)) n 0
def filR2 (n k : Nat) : List PV := rowR (fun i => [bif Nat.beq i k then .bool true else .sym 6 [Int.ofNat i]]) n 0
def docIn (n t : Nat) : List PV := docCs (valsR n t) t (filR n) n
def docOut (n t k : Nat) : List PV := docCs (valsR2 n t k) (toldBy t k) (filR2 n k) n
def rawC (e : List Int) : List PV := [.sym 3 e, .sym 4 e, .sym 5 e]
def nameR (k : Nat) : PV := .str [UInt8.ofNat (Nat.add 97 k)]
mutual
/-- surely one value, structs and tuples, too -/
def eqF : PV → PV → Bool
  | .agg l, y => match y with
    | .agg l' => eqFs l l'
    | _ => false
  | .tup l, y => match y with
    | .tup l' => eqFs l l'
    | _ => false
  | x, y => eqPV x y
def eqFs : List PV → List PV → Bool
  | [], l => match l with
    | [] => true
    | _ :: _ => false
  | x :: xs, l => match l with
    | [] => false
    | y :: ys => eqF x y && eqFs xs ys
end
/-- does a call answer just so? -/
def says (r : Option (PV × PM)) (x : PV) : Bool := match r with
  | some (y, _) => eqF y x
  | none => false
/-- some text of at most so many bytes -/
def saysText (r : Option (PV × PM)) (n : Nat) : Bool := match r with
  | some (.anyS k, _) => Nat.ble k n
  | _ => false
def memo (args : List PV) (r : PV) : List PV → Option PV := fun l => bif eqFs l args then some r else none
/-- the constraint of the form -/
def conTerms (n : Nat) : List PV := rowR (fun i => [.int .i64 (Int.ofNat i), .bool false, .vsl [.int .u32 1] 1 none, .vsl [.int .u32 1] 1 none]) n 0
def conOf (n : Nat) : PV := .agg [.int .i64 0, .vsl (conTerms n) n none, .bool true, .vsl [.int .u32 100] 1 none, .vsl [.int .u32 1] 1 none]
def oneC : PV := .vsl [.int .u32 1] 1 none
/-- the document of a form that is not filled in -/
def vals0 (n : Nat) : List PV := rowR (fun i => [.bool false, bif Nat.beq i 0 then .vsl [.int .u32 100] 1 none else .nils, oneC]) n 0
def fil0 (n : Nat) : List PV := rowR (fun _ => [.bool false]) n 0
def doc0 (n : Nat) : List PV := docCs (vals0 n) 0 (fil0 n) n
def okErr (x : PV) : PV := .tup [x, .nils, .int .i64 0]
end Go.Ab
